/- told: the document's answer (printed by wip/gen_told.py). -/
import Derived.Test.YtmmflhippbegaaaDoorZLook
import Derived.Test.YtmmflhippbegaaaDoorZGetL
import Derived.Test.YtmmflhippbegaaaDoorZTwrL
import Derived.Handy
namespace Go.Proofs.YtmmflhippbegaaaDoor
set_option linter.unusedVariables false
open Go.ChangeShapes Go.WideShapes Go.ChangeAt Go.RowKit

def ToldP (w : World) (r : Lk) (e : Ending) (w' : World) : Prop :=
  ∃ vl, e = .returned (.agg #[.int .u64 r.u, .string (strOf r.s), vl, .int .i64 r.next, .int .i64 r.e]) ∧ Own w' 0 3 vl (intL r.l) ∧ Below w.heap.size w w'
theorem told_below (w : World) (x y z : Obj) : Below w.heap.size w (((w.alloc x).alloc y).alloc z) := (((Below.refl _ _).alloc (Nat.le_refl _) _).alloc (by simp) _).alloc (by simp; omega) _
theorem zwrap_bd (u : Nat) : 0 ≤ IntKind.u64.wrap (zagI u) := by rw [IntKind.wrap_u64]; omega

set_option maxRecDepth 100000 in
set_option maxHeartbeats 1000000 in
theorem told_1 (w : World) (base : Nat) (a : Option Addr) (c : Nat) (bs : List UInt8) (ho : Own w base 5 (.slice a bs.length c) (bytesV bs)) (hl : bs.length ≤ 100000000) (k : Nat) (hk : k ≤ bs.length) (sec b s l : Value) (n u i : Int) (hn0 : -9223372036854775808 ≤ n) (hn1 : n ≤ 9223372036854775807) :
    Calls Tryd.prog 33 #[.slice a bs.length c, .int .i64 k, .agg #[.int .i64 1, sec, .int .i64 n, .int .u64 u, .int .i64 i, b, s, l]] w (ToldP w (lkN (fun x => x) k (getB (bs.drop k)))) := by
  have h3 : Own (((w.alloc (.cells #[.int .i64 1, sec, .int .i64 n, .int .u64 u, .int .i64 i, b, s, l] 46)).alloc (.cells #[.int .u64 0, .string ⟨#[]⟩, .slice none 0 0, .int .i64 0, .int .i64 0] 66)).alloc (.cells #[.int .u64 0, .string ⟨#[]⟩, .slice none 0 0, .int .i64 k, .int .i64 0] 66)) base 5 (.slice a bs.length c) (bytesV bs) := ((ho.alloc _).alloc _).alloc _
  have C1 := rgb_any _ a bs.length c bs h3.rd (by omega) k hk
  clear ho
  cases hres : getB (bs.drop k) with
  | error q =>
    rw [hres] at C1
    clear hres h3
    go_enter Tryd.func33, Tryd.ntmps33
    go_wp2_with fail
    refine C1.mono ?_
    rintro e w' ⟨h1, _, rfl⟩
    obtain rfl := h1 q rfl
    clear h1 C1
    go_wp2
    go_returns
    exact ⟨_, rfl, own_nil _ 0 _, told_below _ _ _ _⟩
  | ok y =>
    obtain ⟨x, j⟩ := y
    rw [hres] at C1
    have hx := (getB_len hres).2
    clear hres h3
    go_enter Tryd.func33, Tryd.ntmps33
    go_wp2_with fail
    refine C1.mono ?_
    rintro e w' ⟨_, h2, rfl⟩
    obtain rfl := h2 x j rfl
    clear h2 C1
    go_wp2
    go_returns
    exact ⟨_, rfl, own_nil _ 0 _, told_below _ _ _ _⟩

set_option maxRecDepth 100000 in
set_option maxHeartbeats 1000000 in
theorem told_2 (w : World) (base : Nat) (a : Option Addr) (c : Nat) (bs : List UInt8) (ho : Own w base 5 (.slice a bs.length c) (bytesV bs)) (hl : bs.length ≤ 100000000) (k : Nat) (hk : k ≤ bs.length) (sec b s l : Value) (n u i : Int) (hn0 : -9223372036854775808 ≤ n) (hn1 : n ≤ 9223372036854775807) :
    Calls Tryd.prog 33 #[.slice a bs.length c, .int .i64 k, .agg #[.int .i64 2, sec, .int .i64 n, .int .u64 u, .int .i64 i, b, s, l]] w (ToldP w (lkN (fun x => x) k (getU (bs.drop k)))) := by
  have h3 : Own (((w.alloc (.cells #[.int .i64 2, sec, .int .i64 n, .int .u64 u, .int .i64 i, b, s, l] 46)).alloc (.cells #[.int .u64 0, .string ⟨#[]⟩, .slice none 0 0, .int .i64 0, .int .i64 0] 66)).alloc (.cells #[.int .u64 0, .string ⟨#[]⟩, .slice none 0 0, .int .i64 k, .int .i64 0] 66)) base 5 (.slice a bs.length c) (bytesV bs) := ((ho.alloc _).alloc _).alloc _
  have C1 := rgu_any _ a bs.length c bs h3.rd (by omega) k hk
  clear ho
  cases hres : getU (bs.drop k) with
  | error q =>
    rw [hres] at C1
    clear hres h3
    go_enter Tryd.func33, Tryd.ntmps33
    go_wp2_with fail
    refine C1.mono ?_
    rintro e w' ⟨h1, _, rfl⟩
    obtain rfl := h1 q rfl
    clear h1 C1
    go_wp2
    go_returns
    exact ⟨_, rfl, own_nil _ 0 _, told_below _ _ _ _⟩
  | ok y =>
    obtain ⟨x, j⟩ := y
    rw [hres] at C1
    clear hres h3
    go_enter Tryd.func33, Tryd.ntmps33
    go_wp2_with fail
    refine C1.mono ?_
    rintro e w' ⟨_, h2, rfl⟩
    obtain rfl := h2 x j rfl
    clear h2 C1
    go_wp2
    go_returns
    exact ⟨_, rfl, own_nil _ 0 _, told_below _ _ _ _⟩

set_option maxRecDepth 100000 in
set_option maxHeartbeats 1000000 in
theorem told_3 (w : World) (base : Nat) (a : Option Addr) (c : Nat) (bs : List UInt8) (ho : Own w base 5 (.slice a bs.length c) (bytesV bs)) (hl : bs.length ≤ 100000000) (k : Nat) (hk : k ≤ bs.length) (sec b s l : Value) (n u i : Int) (hn0 : -9223372036854775808 ≤ n) (hn1 : n ≤ 9223372036854775807) :
    Calls Tryd.prog 33 #[.slice a bs.length c, .int .i64 k, .agg #[.int .i64 3, sec, .int .i64 n, .int .u64 u, .int .i64 i, b, s, l]] w (ToldP w (lkN (fun x => IntKind.u64.wrap (zagI x)) k (getU (bs.drop k)))) := by
  have h3 : Own (((w.alloc (.cells #[.int .i64 3, sec, .int .i64 n, .int .u64 u, .int .i64 i, b, s, l] 46)).alloc (.cells #[.int .u64 0, .string ⟨#[]⟩, .slice none 0 0, .int .i64 0, .int .i64 0] 66)).alloc (.cells #[.int .u64 0, .string ⟨#[]⟩, .slice none 0 0, .int .i64 k, .int .i64 0] 66)) base 5 (.slice a bs.length c) (bytesV bs) := ((ho.alloc _).alloc _).alloc _
  have C1 := rgv_any _ a bs.length c bs h3.rd (by omega) k hk
  clear ho
  cases hres : getU (bs.drop k) with
  | error q =>
    rw [hres] at C1
    clear hres h3
    go_enter Tryd.func33, Tryd.ntmps33
    go_wp2_with fail
    refine C1.mono ?_
    rintro e w' ⟨h1, _, rfl⟩
    obtain rfl := h1 q rfl
    clear h1 C1
    go_wp2
    go_returns
    exact ⟨_, rfl, own_nil _ 0 _, told_below _ _ _ _⟩
  | ok y =>
    obtain ⟨x, j⟩ := y
    rw [hres] at C1
    clear hres h3
    go_enter Tryd.func33, Tryd.ntmps33
    go_wp2_with fail
    refine C1.mono ?_
    rintro e w' ⟨_, h2, rfl⟩
    obtain rfl := h2 x j rfl
    clear h2 C1
    go_wp2
    go_returns
    exact ⟨_, rfl, own_nil _ 0 _, told_below _ _ _ _⟩

set_option maxRecDepth 100000 in
set_option maxHeartbeats 1000000 in
theorem told_10 (w : World) (base : Nat) (a : Option Addr) (c : Nat) (bs : List UInt8) (ho : Own w base 5 (.slice a bs.length c) (bytesV bs)) (hl : bs.length ≤ 100000000) (k : Nat) (hk : k ≤ bs.length) (sec b s l : Value) (n u i : Int) (hn0 : -9223372036854775808 ≤ n) (hn1 : n ≤ 9223372036854775807) :
    Calls Tryd.prog 33 #[.slice a bs.length c, .int .i64 k, .agg #[.int .i64 10, sec, .int .i64 n, .int .u64 u, .int .i64 i, b, s, l]] w (ToldP w (lkN (fun x => x) k (getUpto n (bs.drop k)))) := by
  have h3 : Own (((w.alloc (.cells #[.int .i64 10, sec, .int .i64 n, .int .u64 u, .int .i64 i, b, s, l] 46)).alloc (.cells #[.int .u64 0, .string ⟨#[]⟩, .slice none 0 0, .int .i64 0, .int .i64 0] 66)).alloc (.cells #[.int .u64 0, .string ⟨#[]⟩, .slice none 0 0, .int .i64 k, .int .i64 0] 66)) base 5 (.slice a bs.length c) (bytesV bs) := ((ho.alloc _).alloc _).alloc _
  have C1 := rgt_any _ a bs.length c bs h3.rd (by omega) k hk n hn0 hn1
  clear ho
  cases hres : getUpto n (bs.drop k) with
  | error q =>
    rw [hres] at C1
    clear hres h3
    go_enter Tryd.func33, Tryd.ntmps33
    go_wp2_with fail
    refine C1.mono ?_
    rintro e w' ⟨h1, _, rfl⟩
    obtain rfl := h1 q rfl
    clear h1 C1
    go_wp2
    go_returns
    exact ⟨_, rfl, own_nil _ 0 _, told_below _ _ _ _⟩
  | ok y =>
    obtain ⟨x, j⟩ := y
    rw [hres] at C1
    have hx := (getU_ok (getUpto_len hres).1).1
    clear hres h3
    go_enter Tryd.func33, Tryd.ntmps33
    go_wp2_with fail
    refine C1.mono ?_
    rintro e w' ⟨_, h2, rfl⟩
    obtain rfl := h2 x j rfl
    clear h2 C1
    go_wp2
    go_returns
    exact ⟨_, rfl, own_nil _ 0 _, told_below _ _ _ _⟩

set_option maxRecDepth 100000 in
set_option maxHeartbeats 1000000 in
theorem told_4 (w : World) (base : Nat) (a : Option Addr) (c : Nat) (bs : List UInt8) (ho : Own w base 5 (.slice a bs.length c) (bytesV bs)) (hl : bs.length ≤ 100000000) (k : Nat) (hk : k ≤ bs.length) (sec b s l : Value) (n u i : Int) (hn0 : -9223372036854775808 ≤ n) (hn1 : n ≤ 9223372036854775807) :
    Calls Tryd.prog 33 #[.slice a bs.length c, .int .i64 k, .agg #[.int .i64 4, sec, .int .i64 n, .int .u64 u, .int .i64 i, b, s, l]] w (ToldP w (lkN (fun x => x) k (getW 4 (bs.drop k)))) := by
  have h3 : Own (((w.alloc (.cells #[.int .i64 4, sec, .int .i64 n, .int .u64 u, .int .i64 i, b, s, l] 46)).alloc (.cells #[.int .u64 0, .string ⟨#[]⟩, .slice none 0 0, .int .i64 0, .int .i64 0] 66)).alloc (.cells #[.int .u64 0, .string ⟨#[]⟩, .slice none 0 0, .int .i64 k, .int .i64 0] 66)) base 5 (.slice a bs.length c) (bytesV bs) := ((ho.alloc _).alloc _).alloc _
  have C1 := rgw_any _ a bs.length c bs h3.rd (by omega) k hk 4 (by decide)
  clear ho
  cases hres : getW 4 (bs.drop k) with
  | error q =>
    rw [hres] at C1
    clear hres h3
    go_enter Tryd.func33, Tryd.ntmps33
    go_wp2_with fail
    refine C1.mono ?_
    rintro e w' ⟨h1, _, rfl⟩
    obtain rfl := h1 q rfl
    clear h1 C1
    go_wp2
    go_returns
    exact ⟨_, rfl, own_nil _ 0 _, told_below _ _ _ _⟩
  | ok y =>
    obtain ⟨x, j⟩ := y
    rw [hres] at C1
    clear hres h3
    go_enter Tryd.func33, Tryd.ntmps33
    go_wp2_with fail
    refine C1.mono ?_
    rintro e w' ⟨_, h2, rfl⟩
    obtain rfl := h2 x j rfl
    clear h2 C1
    go_wp2
    go_returns
    exact ⟨_, rfl, own_nil _ 0 _, told_below _ _ _ _⟩

set_option maxRecDepth 100000 in
set_option maxHeartbeats 1000000 in
theorem told_5 (w : World) (base : Nat) (a : Option Addr) (c : Nat) (bs : List UInt8) (ho : Own w base 5 (.slice a bs.length c) (bytesV bs)) (hl : bs.length ≤ 100000000) (k : Nat) (hk : k ≤ bs.length) (sec b s l : Value) (n u i : Int) (hn0 : -9223372036854775808 ≤ n) (hn1 : n ≤ 9223372036854775807) :
    Calls Tryd.prog 33 #[.slice a bs.length c, .int .i64 k, .agg #[.int .i64 5, sec, .int .i64 n, .int .u64 u, .int .i64 i, b, s, l]] w (ToldP w (lkN (fun x => x) k (getW 8 (bs.drop k)))) := by
  have h3 : Own (((w.alloc (.cells #[.int .i64 5, sec, .int .i64 n, .int .u64 u, .int .i64 i, b, s, l] 46)).alloc (.cells #[.int .u64 0, .string ⟨#[]⟩, .slice none 0 0, .int .i64 0, .int .i64 0] 66)).alloc (.cells #[.int .u64 0, .string ⟨#[]⟩, .slice none 0 0, .int .i64 k, .int .i64 0] 66)) base 5 (.slice a bs.length c) (bytesV bs) := ((ho.alloc _).alloc _).alloc _
  have C1 := rgw_any _ a bs.length c bs h3.rd (by omega) k hk 8 (by decide)
  clear ho
  cases hres : getW 8 (bs.drop k) with
  | error q =>
    rw [hres] at C1
    clear hres h3
    go_enter Tryd.func33, Tryd.ntmps33
    go_wp2_with fail
    refine C1.mono ?_
    rintro e w' ⟨h1, _, rfl⟩
    obtain rfl := h1 q rfl
    clear h1 C1
    go_wp2
    go_returns
    exact ⟨_, rfl, own_nil _ 0 _, told_below _ _ _ _⟩
  | ok y =>
    obtain ⟨x, j⟩ := y
    rw [hres] at C1
    clear hres h3
    go_enter Tryd.func33, Tryd.ntmps33
    go_wp2_with fail
    refine C1.mono ?_
    rintro e w' ⟨_, h2, rfl⟩
    obtain rfl := h2 x j rfl
    clear h2 C1
    go_wp2
    go_returns
    exact ⟨_, rfl, own_nil _ 0 _, told_below _ _ _ _⟩

set_option maxRecDepth 100000 in
set_option maxHeartbeats 1000000 in
theorem told_7 (w : World) (base : Nat) (a : Option Addr) (c : Nat) (bs : List UInt8) (ho : Own w base 5 (.slice a bs.length c) (bytesV bs)) (hl : bs.length ≤ 100000000) (k : Nat) (hk : k ≤ bs.length) (sec b s l : Value) (n u i : Int) (hn0 : -9223372036854775808 ≤ n) (hn1 : n ≤ 9223372036854775807) :
    Calls Tryd.prog 33 #[.slice a bs.length c, .int .i64 k, .agg #[.int .i64 7, sec, .int .i64 n, .int .u64 u, .int .i64 i, b, s, l]] w (ToldP w (lkS k (getText n (bs.drop k)))) := by
  have h3 : Own (((w.alloc (.cells #[.int .i64 7, sec, .int .i64 n, .int .u64 u, .int .i64 i, b, s, l] 46)).alloc (.cells #[.int .u64 0, .string ⟨#[]⟩, .slice none 0 0, .int .i64 0, .int .i64 0] 66)).alloc (.cells #[.int .u64 0, .string ⟨#[]⟩, .slice none 0 0, .int .i64 k, .int .i64 0] 66)) base 5 (.slice a bs.length c) (bytesV bs) := ((ho.alloc _).alloc _).alloc _
  have C1 := rgx_any _ base a c bs h3 (by omega) k hk n hn0 hn1
  clear ho
  cases hres : getText n (bs.drop k) with
  | error q =>
    rw [hres] at C1
    clear hres h3
    go_enter Tryd.func33, Tryd.ntmps33
    go_wp2_with fail
    refine C1.mono ?_
    rintro e w' ⟨h1, _, rfl⟩
    obtain rfl := h1 q rfl
    clear h1 C1
    go_wp2
    go_returns
    exact ⟨_, rfl, own_nil _ 0 _, told_below _ _ _ _⟩
  | ok y =>
    obtain ⟨x, j⟩ := y
    rw [hres] at C1
    clear hres h3
    go_enter Tryd.func33, Tryd.ntmps33
    go_wp2_with fail
    refine C1.mono ?_
    rintro e w' ⟨_, h2, rfl⟩
    obtain rfl := h2 x j rfl
    clear h2 C1
    go_wp2
    go_returns
    exact ⟨_, rfl, own_nil _ 0 _, told_below _ _ _ _⟩

set_option maxRecDepth 100000 in
set_option maxHeartbeats 1000000 in
theorem told_6 (w : World) (base : Nat) (a : Option Addr) (c : Nat) (bs : List UInt8) (ho : Own w base 5 (.slice a bs.length c) (bytesV bs)) (hl : bs.length ≤ 100000000) (k : Nat) (hk : k ≤ bs.length) (sec b s l : Value) (n u i : Int) (hn0 : -9223372036854775808 ≤ n) (hn1 : n ≤ 9223372036854775807) :
    Calls Tryd.prog 33 #[.slice a bs.length c, .int .i64 k, .agg #[.int .i64 6, sec, .int .i64 n, .int .u64 u, .int .i64 i, b, s, l]] w (ToldP w (lkS k (getRaw n (bs.drop k)))) := by
  have h3 : Own (((w.alloc (.cells #[.int .i64 6, sec, .int .i64 n, .int .u64 u, .int .i64 i, b, s, l] 46)).alloc (.cells #[.int .u64 0, .string ⟨#[]⟩, .slice none 0 0, .int .i64 0, .int .i64 0] 66)).alloc (.cells #[.int .u64 0, .string ⟨#[]⟩, .slice none 0 0, .int .i64 k, .int .i64 0] 66)) base 5 (.slice a bs.length c) (bytesV bs) := ((ho.alloc _).alloc _).alloc _
  have C1 := rgr_any _ base a c bs h3 (by omega) k hk n hn0 hn1
  clear ho
  cases hres : getRaw n (bs.drop k) with
  | error q =>
    rw [hres] at C1
    clear hres h3
    have hn0 := heap_alloc_new ((w.alloc (.cells #[.int .i64 6, sec, .int .i64 n, .int .u64 u, .int .i64 i, b, s, l] 46)).alloc (.cells #[.int .u64 0, .string ⟨#[]⟩, .slice none 0 0, .int .i64 0, .int .i64 0] 66)) (.cells #[.int .u64 0, .string ⟨#[]⟩, .slice none 0 0, .int .i64 k, .int .i64 0] 66)
    have hn1 := (Below.refl _ _).alloc (Nat.le_refl _) (.cells #[.int .u64 0, .string ⟨#[]⟩, .slice none 0 0, .int .i64 k, .int .i64 0] 66) |>.block _ (show w.heap.size + 1 < ((w.alloc (.cells #[.int .i64 6, sec, .int .i64 n, .int .u64 u, .int .i64 i, b, s, l] 46)).alloc (.cells #[.int .u64 0, .string ⟨#[]⟩, .slice none 0 0, .int .i64 0, .int .i64 0] 66)).heap.size by simp)
    have hn2 := heap_alloc_new (w.alloc (.cells #[.int .i64 6, sec, .int .i64 n, .int .u64 u, .int .i64 i, b, s, l] 46)) (.cells #[.int .u64 0, .string ⟨#[]⟩, .slice none 0 0, .int .i64 0, .int .i64 0] 66)
    go_enter Tryd.func33, Tryd.ntmps33
    go_wp2_with fail
    refine C1.mono ?_
    rintro e w' ⟨v, hb, h1, h2⟩
    obtain ⟨rfl, hrd⟩ := h1 q rfl
    clear h1 h2 C1
    obtain ⟨av, cv, rfl⟩ := own_slice hrd
    simp only [List.length_nil] at hrd ⊢
    have hrun : (convert 37 9 (.slice av 0 cv)).run Tryd.prog w' = .ok (.string (strOf [])) w' := run_str (P := Tryd.prog) Tryd.underlying37 Tryd.underlying5 Tryd.underlying9 (bs := []) hrd.rd
    have hb3 := (told_below w _ _ _).trans (hb.mono (told_below w _ _ _).size)
    have p2 : w'.heap[w.heap.size + 1 + 1]? = some (.cells #[.int .u64 0, .string ⟨#[]⟩, .slice none 0 0, .int .i64 k, .int .i64 0] 66 (0, 0)) := (hb.block _ (by simp)).trans (by simpa using hn0)
    have p1 : w'.heap[w.heap.size + 1]? = some (.cells #[.int .u64 0, .string ⟨#[]⟩, .slice none 0 0, .int .i64 0, .int .i64 0] 66 (0, 0)) := (hb.block _ (by simp)).trans (hn1.trans (by simpa using hn2))
    have f0 := blk_frozen p2 0
    have f1 := blk_frozen p2 1
    have f2 := blk_frozen p2 2
    have f3 := blk_frozen p2 3
    have f4 := blk_frozen p2 4
    have a0 := blk_cell p2 0
    have a1 := blk_cell p2 1
    have a2 := blk_cell p2 2
    have a3 := blk_cell p2 3
    have a4 := blk_cell p2 4
    simp at a0 a1 a2 a3 a4
    have P1 := Lib.hid p1
    have P2 := Lib.hid p2
    have HRD := Lib.hid hrd
    have HB3 := Lib.hid hb3
    clear p1 p2 hn0 hn1 hn2 hb hrd hb3
    go_upto_region 27 with fail
    have p2 := blk_set (blk_set (blk_set P2.out 1 (.string (strOf []))) 3 (.int .i64 k)) 4 (.int .i64 q)
    have he : Eff (fun k => k = w.heap.size + 1 + 1) w' (((w'.setCell ⟨w.heap.size + 1 + 1, 1, none⟩ (.string (strOf []))).setCell ⟨w.heap.size + 1 + 1, 3, none⟩ (.int .i64 k)).setCell ⟨w.heap.size + 1 + 1, 4, none⟩ (.int .i64 q)) := (((Eff.refl (fun k => k = w.heap.size + 1 + 1) w').setCell (p := ⟨w.heap.size + 1 + 1, 1, none⟩) (fun _ => rfl) _).setCell (p := ⟨w.heap.size + 1 + 1, 3, none⟩) (fun _ => rfl) _).setCell (p := ⟨w.heap.size + 1 + 1, 4, none⟩) (fun _ => rfl) _
    clear f0 f1 f2 f3 f4 P2 a0 a1 a2 a3 a4 hrun
    generalize (((w'.setCell ⟨w.heap.size + 1 + 1, 1, none⟩ (.string (strOf []))).setCell ⟨w.heap.size + 1 + 1, 3, none⟩ (.int .i64 k)).setCell ⟨w.heap.size + 1 + 1, 4, none⟩ (.int .i64 q)) = wz at p2 he ⊢
    have p1 := (he.block (w.heap.size + 1) (lt_of_heap P1.out) (by omega)).trans P1.out
    have hb3 := HB3.out.trans (he.below (B := w.heap.size) (fun k hk => by omega) HB3.out.size)
    have hrd := HRD.out.eff he (fun q hq hf => by have := (HRD.out.lt q hq).1; simp at this; omega)
    have a0 := blk_cell p2 0
    have a1 := blk_cell p2 1
    have a2 := blk_cell p2 2
    have a3 := blk_cell p2 3
    have a4 := blk_cell p2 4
    have b0 := blk_cell p1 0
    have b1 := blk_cell p1 1
    have b2 := blk_cell p1 2
    have b3 := blk_cell p1 3
    have b4 := blk_cell p1 4
    have g0 := blk_frozen p1 0
    have g1 := blk_frozen p1 1
    have g2 := blk_frozen p1 2
    have g3 := blk_frozen p1 3
    have g4 := blk_frozen p1 4
    simp at a0 a1 a2 a3 a4 b0 b1 b2 b3 b4
    have he5 := fun (u0 u1 u2 u3 u4 : Value) => (((((Eff.refl (fun k => k = w.heap.size + 1) wz).setCell (p := ⟨w.heap.size + 1, 0, none⟩) (fun _ => rfl) u0).setCell (p := ⟨w.heap.size + 1, 1, none⟩) (fun _ => rfl) u1).setCell (p := ⟨w.heap.size + 1, 2, none⟩) (fun _ => rfl) u2).setCell (p := ⟨w.heap.size + 1, 3, none⟩) (fun _ => rfl) u3).setCell (p := ⟨w.heap.size + 1, 4, none⟩) (fun _ => rfl) u4
    have HRD3 := Lib.hid (fun (u0 u1 u2 u3 u4 : Value) => hrd.eff (he5 u0 u1 u2 u3 u4) (fun q hq hf => by have := (hrd.lt q hq).1; simp at this; omega))
    have HB5 := Lib.hid (fun (u0 u1 u2 u3 u4 : Value) => hb3.trans ((he5 u0 u1 u2 u3 u4).below (B := w.heap.size) (fun k hk => by omega) hb3.size))
    have R1 := Lib.hid p1
    clear p1 p2 hrd hb3 he he5
    go_wp2
    refine bodyPost_ret (by simp [results, Tryd.results33, go_sem, tower0 R1.out, tower1 R1.out, tower2 R1.out, tower3 R1.out, tower4 R1.out]; try rfl) rfl ?_
    exact ⟨_, rfl, own_nil _ 0 _, HB5.out _ _ _ _ _⟩
  | ok y =>
    obtain ⟨x, j⟩ := y
    rw [hres] at C1
    clear hres h3
    have hn0 := heap_alloc_new ((w.alloc (.cells #[.int .i64 6, sec, .int .i64 n, .int .u64 u, .int .i64 i, b, s, l] 46)).alloc (.cells #[.int .u64 0, .string ⟨#[]⟩, .slice none 0 0, .int .i64 0, .int .i64 0] 66)) (.cells #[.int .u64 0, .string ⟨#[]⟩, .slice none 0 0, .int .i64 k, .int .i64 0] 66)
    have hn1 := (Below.refl _ _).alloc (Nat.le_refl _) (.cells #[.int .u64 0, .string ⟨#[]⟩, .slice none 0 0, .int .i64 k, .int .i64 0] 66) |>.block _ (show w.heap.size + 1 < ((w.alloc (.cells #[.int .i64 6, sec, .int .i64 n, .int .u64 u, .int .i64 i, b, s, l] 46)).alloc (.cells #[.int .u64 0, .string ⟨#[]⟩, .slice none 0 0, .int .i64 0, .int .i64 0] 66)).heap.size by simp)
    have hn2 := heap_alloc_new (w.alloc (.cells #[.int .i64 6, sec, .int .i64 n, .int .u64 u, .int .i64 i, b, s, l] 46)) (.cells #[.int .u64 0, .string ⟨#[]⟩, .slice none 0 0, .int .i64 0, .int .i64 0] 66)
    go_enter Tryd.func33, Tryd.ntmps33
    go_wp2_with fail
    refine C1.mono ?_
    rintro e w' ⟨v, hb, h1, h2⟩
    obtain ⟨rfl, hrd⟩ := h2 x j rfl
    clear h1 h2 C1
    obtain ⟨av, cv, rfl⟩ := own_slice hrd
    simp only [List.length_nil] at hrd ⊢
    have hrun : (convert 37 9 (.slice av (bytesV x).length cv)).run Tryd.prog w' = .ok (.string (strOf x)) w' := run_str (P := Tryd.prog) Tryd.underlying37 Tryd.underlying5 Tryd.underlying9 (bs := x) hrd.rd
    have hb3 := (told_below w _ _ _).trans (hb.mono (told_below w _ _ _).size)
    have p2 : w'.heap[w.heap.size + 1 + 1]? = some (.cells #[.int .u64 0, .string ⟨#[]⟩, .slice none 0 0, .int .i64 k, .int .i64 0] 66 (0, 0)) := (hb.block _ (by simp)).trans (by simpa using hn0)
    have p1 : w'.heap[w.heap.size + 1]? = some (.cells #[.int .u64 0, .string ⟨#[]⟩, .slice none 0 0, .int .i64 0, .int .i64 0] 66 (0, 0)) := (hb.block _ (by simp)).trans (hn1.trans (by simpa using hn2))
    have f0 := blk_frozen p2 0
    have f1 := blk_frozen p2 1
    have f2 := blk_frozen p2 2
    have f3 := blk_frozen p2 3
    have f4 := blk_frozen p2 4
    have a0 := blk_cell p2 0
    have a1 := blk_cell p2 1
    have a2 := blk_cell p2 2
    have a3 := blk_cell p2 3
    have a4 := blk_cell p2 4
    simp at a0 a1 a2 a3 a4
    have P1 := Lib.hid p1
    have P2 := Lib.hid p2
    have HRD := Lib.hid hrd
    have HB3 := Lib.hid hb3
    clear p1 p2 hn0 hn1 hn2 hb hrd hb3
    go_upto_region 27 with fail
    have p2 := blk_set (blk_set (blk_set P2.out 1 (.string (strOf x))) 3 (.int .i64 ((k : Int) + (j : Int)))) 4 (.int .i64 0)
    have he : Eff (fun k => k = w.heap.size + 1 + 1) w' (((w'.setCell ⟨w.heap.size + 1 + 1, 1, none⟩ (.string (strOf x))).setCell ⟨w.heap.size + 1 + 1, 3, none⟩ (.int .i64 ((k : Int) + (j : Int)))).setCell ⟨w.heap.size + 1 + 1, 4, none⟩ (.int .i64 0)) := (((Eff.refl (fun k => k = w.heap.size + 1 + 1) w').setCell (p := ⟨w.heap.size + 1 + 1, 1, none⟩) (fun _ => rfl) _).setCell (p := ⟨w.heap.size + 1 + 1, 3, none⟩) (fun _ => rfl) _).setCell (p := ⟨w.heap.size + 1 + 1, 4, none⟩) (fun _ => rfl) _
    clear f0 f1 f2 f3 f4 P2 a0 a1 a2 a3 a4 hrun
    generalize (((w'.setCell ⟨w.heap.size + 1 + 1, 1, none⟩ (.string (strOf x))).setCell ⟨w.heap.size + 1 + 1, 3, none⟩ (.int .i64 ((k : Int) + (j : Int)))).setCell ⟨w.heap.size + 1 + 1, 4, none⟩ (.int .i64 0)) = wz at p2 he ⊢
    have p1 := (he.block (w.heap.size + 1) (lt_of_heap P1.out) (by omega)).trans P1.out
    have hb3 := HB3.out.trans (he.below (B := w.heap.size) (fun k hk => by omega) HB3.out.size)
    have hrd := HRD.out.eff he (fun q hq hf => by have := (HRD.out.lt q hq).1; simp at this; omega)
    have a0 := blk_cell p2 0
    have a1 := blk_cell p2 1
    have a2 := blk_cell p2 2
    have a3 := blk_cell p2 3
    have a4 := blk_cell p2 4
    have b0 := blk_cell p1 0
    have b1 := blk_cell p1 1
    have b2 := blk_cell p1 2
    have b3 := blk_cell p1 3
    have b4 := blk_cell p1 4
    have g0 := blk_frozen p1 0
    have g1 := blk_frozen p1 1
    have g2 := blk_frozen p1 2
    have g3 := blk_frozen p1 3
    have g4 := blk_frozen p1 4
    simp at a0 a1 a2 a3 a4 b0 b1 b2 b3 b4
    have he5 := fun (u0 u1 u2 u3 u4 : Value) => (((((Eff.refl (fun k => k = w.heap.size + 1) wz).setCell (p := ⟨w.heap.size + 1, 0, none⟩) (fun _ => rfl) u0).setCell (p := ⟨w.heap.size + 1, 1, none⟩) (fun _ => rfl) u1).setCell (p := ⟨w.heap.size + 1, 2, none⟩) (fun _ => rfl) u2).setCell (p := ⟨w.heap.size + 1, 3, none⟩) (fun _ => rfl) u3).setCell (p := ⟨w.heap.size + 1, 4, none⟩) (fun _ => rfl) u4
    have HRD3 := Lib.hid (fun (u0 u1 u2 u3 u4 : Value) => hrd.eff (he5 u0 u1 u2 u3 u4) (fun q hq hf => by have := (hrd.lt q hq).1; simp at this; omega))
    have HB5 := Lib.hid (fun (u0 u1 u2 u3 u4 : Value) => hb3.trans ((he5 u0 u1 u2 u3 u4).below (B := w.heap.size) (fun k hk => by omega) hb3.size))
    have R1 := Lib.hid p1
    clear p1 p2 hrd hb3 he he5
    go_wp2
    refine bodyPost_ret (by simp [results, Tryd.results33, go_sem, tower0 R1.out, tower1 R1.out, tower2 R1.out, tower3 R1.out, tower4 R1.out]; try rfl) rfl ?_
    exact ⟨_, rfl, own_nil _ 0 _, HB5.out _ _ _ _ _⟩

set_option maxRecDepth 100000 in
set_option maxHeartbeats 1000000 in
theorem told_8 (w : World) (base : Nat) (a : Option Addr) (c : Nat) (bs : List UInt8) (ho : Own w base 5 (.slice a bs.length c) (bytesV bs)) (hl : bs.length ≤ 100000000) (k : Nat) (hk : k ≤ bs.length) (sec b s l : Value) (n u i : Int) (hn0 : -9223372036854775808 ≤ n) (hn1 : n ≤ 9223372036854775807) :
    Calls Tryd.prog 33 #[.slice a bs.length c, .int .i64 k, .agg #[.int .i64 8, sec, .int .i64 n, .int .u64 u, .int .i64 i, b, s, l]] w (ToldP w (lkL k (getRis n (bs.drop k)))) := by
  have h3 : Own (((w.alloc (.cells #[.int .i64 8, sec, .int .i64 n, .int .u64 u, .int .i64 i, b, s, l] 46)).alloc (.cells #[.int .u64 0, .string ⟨#[]⟩, .slice none 0 0, .int .i64 0, .int .i64 0] 66)).alloc (.cells #[.int .u64 0, .string ⟨#[]⟩, .slice none 0 0, .int .i64 k, .int .i64 0] 66)) base 5 (.slice a bs.length c) (bytesV bs) := ((ho.alloc _).alloc _).alloc _
  have C1 := rgi_any _ a bs.length c bs h3.rd (by omega) k hk n hn0 hn1
  clear ho
  cases hres : getRis n (bs.drop k) with
  | error q =>
    rw [hres] at C1
    clear hres h3
    have hn0 := heap_alloc_new ((w.alloc (.cells #[.int .i64 8, sec, .int .i64 n, .int .u64 u, .int .i64 i, b, s, l] 46)).alloc (.cells #[.int .u64 0, .string ⟨#[]⟩, .slice none 0 0, .int .i64 0, .int .i64 0] 66)) (.cells #[.int .u64 0, .string ⟨#[]⟩, .slice none 0 0, .int .i64 k, .int .i64 0] 66)
    have hn1 := (Below.refl _ _).alloc (Nat.le_refl _) (.cells #[.int .u64 0, .string ⟨#[]⟩, .slice none 0 0, .int .i64 k, .int .i64 0] 66) |>.block _ (show w.heap.size + 1 < ((w.alloc (.cells #[.int .i64 8, sec, .int .i64 n, .int .u64 u, .int .i64 i, b, s, l] 46)).alloc (.cells #[.int .u64 0, .string ⟨#[]⟩, .slice none 0 0, .int .i64 0, .int .i64 0] 66)).heap.size by simp)
    have hn2 := heap_alloc_new (w.alloc (.cells #[.int .i64 8, sec, .int .i64 n, .int .u64 u, .int .i64 i, b, s, l] 46)) (.cells #[.int .u64 0, .string ⟨#[]⟩, .slice none 0 0, .int .i64 0, .int .i64 0] 66)
    go_enter Tryd.func33, Tryd.ntmps33
    go_wp2_with fail
    refine C1.mono ?_
    rintro e w' ⟨v, hb, h1, h2⟩
    obtain ⟨rfl, hrd⟩ := h1 q rfl
    clear h1 h2 C1
    obtain ⟨av, cv, rfl⟩ := own_slice hrd
    simp only [List.length_nil] at hrd ⊢
    have hb3 := (told_below w _ _ _).trans (hb.mono (told_below w _ _ _).size)
    have p2 : w'.heap[w.heap.size + 1 + 1]? = some (.cells #[.int .u64 0, .string ⟨#[]⟩, .slice none 0 0, .int .i64 k, .int .i64 0] 66 (0, 0)) := (hb.block _ (by simp)).trans (by simpa using hn0)
    have p1 : w'.heap[w.heap.size + 1]? = some (.cells #[.int .u64 0, .string ⟨#[]⟩, .slice none 0 0, .int .i64 0, .int .i64 0] 66 (0, 0)) := (hb.block _ (by simp)).trans (hn1.trans (by simpa using hn2))
    have f0 := blk_frozen p2 0
    have f1 := blk_frozen p2 1
    have f2 := blk_frozen p2 2
    have f3 := blk_frozen p2 3
    have f4 := blk_frozen p2 4
    have a0 := blk_cell p2 0
    have a1 := blk_cell p2 1
    have a2 := blk_cell p2 2
    have a3 := blk_cell p2 3
    have a4 := blk_cell p2 4
    simp at a0 a1 a2 a3 a4
    have P1 := Lib.hid p1
    have P2 := Lib.hid p2
    have HRD := Lib.hid hrd
    have HB3 := Lib.hid hb3
    clear p1 p2 hn0 hn1 hn2 hb hrd hb3
    go_upto_region 27 with fail
    have p2 := blk_set (blk_set (blk_set P2.out 2 (.slice av 0 cv)) 3 (.int .i64 k)) 4 (.int .i64 q)
    have he : Eff (fun k => k = w.heap.size + 1 + 1) w' (((w'.setCell ⟨w.heap.size + 1 + 1, 2, none⟩ (.slice av 0 cv)).setCell ⟨w.heap.size + 1 + 1, 3, none⟩ (.int .i64 k)).setCell ⟨w.heap.size + 1 + 1, 4, none⟩ (.int .i64 q)) := (((Eff.refl (fun k => k = w.heap.size + 1 + 1) w').setCell (p := ⟨w.heap.size + 1 + 1, 2, none⟩) (fun _ => rfl) _).setCell (p := ⟨w.heap.size + 1 + 1, 3, none⟩) (fun _ => rfl) _).setCell (p := ⟨w.heap.size + 1 + 1, 4, none⟩) (fun _ => rfl) _
    clear f0 f1 f2 f3 f4 P2 a0 a1 a2 a3 a4
    generalize (((w'.setCell ⟨w.heap.size + 1 + 1, 2, none⟩ (.slice av 0 cv)).setCell ⟨w.heap.size + 1 + 1, 3, none⟩ (.int .i64 k)).setCell ⟨w.heap.size + 1 + 1, 4, none⟩ (.int .i64 q)) = wz at p2 he ⊢
    have p1 := (he.block (w.heap.size + 1) (lt_of_heap P1.out) (by omega)).trans P1.out
    have hb3 := HB3.out.trans (he.below (B := w.heap.size) (fun k hk => by omega) HB3.out.size)
    have hrd := HRD.out.eff he (fun q hq hf => by have := (HRD.out.lt q hq).1; simp at this; omega)
    have a0 := blk_cell p2 0
    have a1 := blk_cell p2 1
    have a2 := blk_cell p2 2
    have a3 := blk_cell p2 3
    have a4 := blk_cell p2 4
    have b0 := blk_cell p1 0
    have b1 := blk_cell p1 1
    have b2 := blk_cell p1 2
    have b3 := blk_cell p1 3
    have b4 := blk_cell p1 4
    have g0 := blk_frozen p1 0
    have g1 := blk_frozen p1 1
    have g2 := blk_frozen p1 2
    have g3 := blk_frozen p1 3
    have g4 := blk_frozen p1 4
    simp at a0 a1 a2 a3 a4 b0 b1 b2 b3 b4
    have he5 := fun (u0 u1 u2 u3 u4 : Value) => (((((Eff.refl (fun k => k = w.heap.size + 1) wz).setCell (p := ⟨w.heap.size + 1, 0, none⟩) (fun _ => rfl) u0).setCell (p := ⟨w.heap.size + 1, 1, none⟩) (fun _ => rfl) u1).setCell (p := ⟨w.heap.size + 1, 2, none⟩) (fun _ => rfl) u2).setCell (p := ⟨w.heap.size + 1, 3, none⟩) (fun _ => rfl) u3).setCell (p := ⟨w.heap.size + 1, 4, none⟩) (fun _ => rfl) u4
    have HRD3 := Lib.hid (fun (u0 u1 u2 u3 u4 : Value) => hrd.eff (he5 u0 u1 u2 u3 u4) (fun q hq hf => by have := (hrd.lt q hq).1; simp at this; omega))
    have HB5 := Lib.hid (fun (u0 u1 u2 u3 u4 : Value) => hb3.trans ((he5 u0 u1 u2 u3 u4).below (B := w.heap.size) (fun k hk => by omega) hb3.size))
    have R1 := Lib.hid p1
    clear p1 p2 hrd hb3 he he5
    go_wp2
    refine bodyPost_ret (by simp [results, Tryd.results33, go_sem, tower0 R1.out, tower1 R1.out, tower2 R1.out, tower3 R1.out, tower4 R1.out]; try rfl) rfl ?_
    exact ⟨_, rfl, own_base (HRD3.out _ _ _ _ _) (Nat.zero_le _), HB5.out _ _ _ _ _⟩
  | ok y =>
    obtain ⟨x, j⟩ := y
    rw [hres] at C1
    clear hres h3
    have hn0 := heap_alloc_new ((w.alloc (.cells #[.int .i64 8, sec, .int .i64 n, .int .u64 u, .int .i64 i, b, s, l] 46)).alloc (.cells #[.int .u64 0, .string ⟨#[]⟩, .slice none 0 0, .int .i64 0, .int .i64 0] 66)) (.cells #[.int .u64 0, .string ⟨#[]⟩, .slice none 0 0, .int .i64 k, .int .i64 0] 66)
    have hn1 := (Below.refl _ _).alloc (Nat.le_refl _) (.cells #[.int .u64 0, .string ⟨#[]⟩, .slice none 0 0, .int .i64 k, .int .i64 0] 66) |>.block _ (show w.heap.size + 1 < ((w.alloc (.cells #[.int .i64 8, sec, .int .i64 n, .int .u64 u, .int .i64 i, b, s, l] 46)).alloc (.cells #[.int .u64 0, .string ⟨#[]⟩, .slice none 0 0, .int .i64 0, .int .i64 0] 66)).heap.size by simp)
    have hn2 := heap_alloc_new (w.alloc (.cells #[.int .i64 8, sec, .int .i64 n, .int .u64 u, .int .i64 i, b, s, l] 46)) (.cells #[.int .u64 0, .string ⟨#[]⟩, .slice none 0 0, .int .i64 0, .int .i64 0] 66)
    go_enter Tryd.func33, Tryd.ntmps33
    go_wp2_with fail
    refine C1.mono ?_
    rintro e w' ⟨v, hb, h1, h2⟩
    obtain ⟨rfl, hrd⟩ := h2 x j rfl
    clear h1 h2 C1
    obtain ⟨av, cv, rfl⟩ := own_slice hrd
    simp only [List.length_nil] at hrd ⊢
    have hb3 := (told_below w _ _ _).trans (hb.mono (told_below w _ _ _).size)
    have p2 : w'.heap[w.heap.size + 1 + 1]? = some (.cells #[.int .u64 0, .string ⟨#[]⟩, .slice none 0 0, .int .i64 k, .int .i64 0] 66 (0, 0)) := (hb.block _ (by simp)).trans (by simpa using hn0)
    have p1 : w'.heap[w.heap.size + 1]? = some (.cells #[.int .u64 0, .string ⟨#[]⟩, .slice none 0 0, .int .i64 0, .int .i64 0] 66 (0, 0)) := (hb.block _ (by simp)).trans (hn1.trans (by simpa using hn2))
    have f0 := blk_frozen p2 0
    have f1 := blk_frozen p2 1
    have f2 := blk_frozen p2 2
    have f3 := blk_frozen p2 3
    have f4 := blk_frozen p2 4
    have a0 := blk_cell p2 0
    have a1 := blk_cell p2 1
    have a2 := blk_cell p2 2
    have a3 := blk_cell p2 3
    have a4 := blk_cell p2 4
    simp at a0 a1 a2 a3 a4
    have P1 := Lib.hid p1
    have P2 := Lib.hid p2
    have HRD := Lib.hid hrd
    have HB3 := Lib.hid hb3
    clear p1 p2 hn0 hn1 hn2 hb hrd hb3
    go_upto_region 27 with fail
    have p2 := blk_set (blk_set (blk_set P2.out 2 (.slice av (intL x).length cv)) 3 (.int .i64 ((k : Int) + (j : Int)))) 4 (.int .i64 0)
    have he : Eff (fun k => k = w.heap.size + 1 + 1) w' (((w'.setCell ⟨w.heap.size + 1 + 1, 2, none⟩ (.slice av (intL x).length cv)).setCell ⟨w.heap.size + 1 + 1, 3, none⟩ (.int .i64 ((k : Int) + (j : Int)))).setCell ⟨w.heap.size + 1 + 1, 4, none⟩ (.int .i64 0)) := (((Eff.refl (fun k => k = w.heap.size + 1 + 1) w').setCell (p := ⟨w.heap.size + 1 + 1, 2, none⟩) (fun _ => rfl) _).setCell (p := ⟨w.heap.size + 1 + 1, 3, none⟩) (fun _ => rfl) _).setCell (p := ⟨w.heap.size + 1 + 1, 4, none⟩) (fun _ => rfl) _
    clear f0 f1 f2 f3 f4 P2 a0 a1 a2 a3 a4
    generalize (((w'.setCell ⟨w.heap.size + 1 + 1, 2, none⟩ (.slice av (intL x).length cv)).setCell ⟨w.heap.size + 1 + 1, 3, none⟩ (.int .i64 ((k : Int) + (j : Int)))).setCell ⟨w.heap.size + 1 + 1, 4, none⟩ (.int .i64 0)) = wz at p2 he ⊢
    have p1 := (he.block (w.heap.size + 1) (lt_of_heap P1.out) (by omega)).trans P1.out
    have hb3 := HB3.out.trans (he.below (B := w.heap.size) (fun k hk => by omega) HB3.out.size)
    have hrd := HRD.out.eff he (fun q hq hf => by have := (HRD.out.lt q hq).1; simp at this; omega)
    have a0 := blk_cell p2 0
    have a1 := blk_cell p2 1
    have a2 := blk_cell p2 2
    have a3 := blk_cell p2 3
    have a4 := blk_cell p2 4
    have b0 := blk_cell p1 0
    have b1 := blk_cell p1 1
    have b2 := blk_cell p1 2
    have b3 := blk_cell p1 3
    have b4 := blk_cell p1 4
    have g0 := blk_frozen p1 0
    have g1 := blk_frozen p1 1
    have g2 := blk_frozen p1 2
    have g3 := blk_frozen p1 3
    have g4 := blk_frozen p1 4
    simp at a0 a1 a2 a3 a4 b0 b1 b2 b3 b4
    have he5 := fun (u0 u1 u2 u3 u4 : Value) => (((((Eff.refl (fun k => k = w.heap.size + 1) wz).setCell (p := ⟨w.heap.size + 1, 0, none⟩) (fun _ => rfl) u0).setCell (p := ⟨w.heap.size + 1, 1, none⟩) (fun _ => rfl) u1).setCell (p := ⟨w.heap.size + 1, 2, none⟩) (fun _ => rfl) u2).setCell (p := ⟨w.heap.size + 1, 3, none⟩) (fun _ => rfl) u3).setCell (p := ⟨w.heap.size + 1, 4, none⟩) (fun _ => rfl) u4
    have HRD3 := Lib.hid (fun (u0 u1 u2 u3 u4 : Value) => hrd.eff (he5 u0 u1 u2 u3 u4) (fun q hq hf => by have := (hrd.lt q hq).1; simp at this; omega))
    have HB5 := Lib.hid (fun (u0 u1 u2 u3 u4 : Value) => hb3.trans ((he5 u0 u1 u2 u3 u4).below (B := w.heap.size) (fun k hk => by omega) hb3.size))
    have R1 := Lib.hid p1
    clear p1 p2 hrd hb3 he he5
    go_wp2
    refine bodyPost_ret (by simp [results, Tryd.results33, go_sem, tower0 R1.out, tower1 R1.out, tower2 R1.out, tower3 R1.out, tower4 R1.out]; try rfl) rfl ?_
    exact ⟨_, rfl, own_base (HRD3.out _ _ _ _ _) (Nat.zero_le _), HB5.out _ _ _ _ _⟩

set_option maxRecDepth 100000 in
set_option maxHeartbeats 1000000 in
theorem told_9 (w : World) (base : Nat) (a : Option Addr) (c : Nat) (bs : List UInt8) (ho : Own w base 5 (.slice a bs.length c) (bytesV bs)) (hl : bs.length ≤ 100000000) (k : Nat) (hk : k ≤ bs.length) (sec b s l : Value) (n u i : Int) (hn0 : -9223372036854775808 ≤ n) (hn1 : n ≤ 9223372036854775807) :
    Calls Tryd.prog 33 #[.slice a bs.length c, .int .i64 k, .agg #[.int .i64 9, sec, .int .i64 n, .int .u64 u, .int .i64 i, b, s, l]] w (ToldP w (lkL k (toI (getPk n (bs.drop k))))) := by
  have h3 : Own (((w.alloc (.cells #[.int .i64 9, sec, .int .i64 n, .int .u64 u, .int .i64 i, b, s, l] 46)).alloc (.cells #[.int .u64 0, .string ⟨#[]⟩, .slice none 0 0, .int .i64 0, .int .i64 0] 66)).alloc (.cells #[.int .u64 0, .string ⟨#[]⟩, .slice none 0 0, .int .i64 k, .int .i64 0] 66)) base 5 (.slice a bs.length c) (bytesV bs) := ((ho.alloc _).alloc _).alloc _
  have C1 := rgp_any _ a bs.length c bs h3.rd (by omega) k hk n hn0 hn1
  clear ho
  cases hres : toI (getPk n (bs.drop k)) with
  | error q =>
    rw [hres] at C1
    clear hres h3
    have hn0 := heap_alloc_new ((w.alloc (.cells #[.int .i64 9, sec, .int .i64 n, .int .u64 u, .int .i64 i, b, s, l] 46)).alloc (.cells #[.int .u64 0, .string ⟨#[]⟩, .slice none 0 0, .int .i64 0, .int .i64 0] 66)) (.cells #[.int .u64 0, .string ⟨#[]⟩, .slice none 0 0, .int .i64 k, .int .i64 0] 66)
    have hn1 := (Below.refl _ _).alloc (Nat.le_refl _) (.cells #[.int .u64 0, .string ⟨#[]⟩, .slice none 0 0, .int .i64 k, .int .i64 0] 66) |>.block _ (show w.heap.size + 1 < ((w.alloc (.cells #[.int .i64 9, sec, .int .i64 n, .int .u64 u, .int .i64 i, b, s, l] 46)).alloc (.cells #[.int .u64 0, .string ⟨#[]⟩, .slice none 0 0, .int .i64 0, .int .i64 0] 66)).heap.size by simp)
    have hn2 := heap_alloc_new (w.alloc (.cells #[.int .i64 9, sec, .int .i64 n, .int .u64 u, .int .i64 i, b, s, l] 46)) (.cells #[.int .u64 0, .string ⟨#[]⟩, .slice none 0 0, .int .i64 0, .int .i64 0] 66)
    go_enter Tryd.func33, Tryd.ntmps33
    go_wp2_with fail
    refine C1.mono ?_
    rintro e w' ⟨v, hb, h1, h2⟩
    obtain ⟨rfl, hrd⟩ := h1 q rfl
    clear h1 h2 C1
    obtain ⟨av, cv, rfl⟩ := own_slice hrd
    simp only [List.length_nil] at hrd ⊢
    have hb3 := (told_below w _ _ _).trans (hb.mono (told_below w _ _ _).size)
    have p2 : w'.heap[w.heap.size + 1 + 1]? = some (.cells #[.int .u64 0, .string ⟨#[]⟩, .slice none 0 0, .int .i64 k, .int .i64 0] 66 (0, 0)) := (hb.block _ (by simp)).trans (by simpa using hn0)
    have p1 : w'.heap[w.heap.size + 1]? = some (.cells #[.int .u64 0, .string ⟨#[]⟩, .slice none 0 0, .int .i64 0, .int .i64 0] 66 (0, 0)) := (hb.block _ (by simp)).trans (hn1.trans (by simpa using hn2))
    have f0 := blk_frozen p2 0
    have f1 := blk_frozen p2 1
    have f2 := blk_frozen p2 2
    have f3 := blk_frozen p2 3
    have f4 := blk_frozen p2 4
    have a0 := blk_cell p2 0
    have a1 := blk_cell p2 1
    have a2 := blk_cell p2 2
    have a3 := blk_cell p2 3
    have a4 := blk_cell p2 4
    simp at a0 a1 a2 a3 a4
    have P1 := Lib.hid p1
    have P2 := Lib.hid p2
    have HRD := Lib.hid hrd
    have HB3 := Lib.hid hb3
    clear p1 p2 hn0 hn1 hn2 hb hrd hb3
    go_upto_region 27 with fail
    have p2 := blk_set (blk_set (blk_set P2.out 2 (.slice av 0 cv)) 3 (.int .i64 k)) 4 (.int .i64 q)
    have he : Eff (fun k => k = w.heap.size + 1 + 1) w' (((w'.setCell ⟨w.heap.size + 1 + 1, 2, none⟩ (.slice av 0 cv)).setCell ⟨w.heap.size + 1 + 1, 3, none⟩ (.int .i64 k)).setCell ⟨w.heap.size + 1 + 1, 4, none⟩ (.int .i64 q)) := (((Eff.refl (fun k => k = w.heap.size + 1 + 1) w').setCell (p := ⟨w.heap.size + 1 + 1, 2, none⟩) (fun _ => rfl) _).setCell (p := ⟨w.heap.size + 1 + 1, 3, none⟩) (fun _ => rfl) _).setCell (p := ⟨w.heap.size + 1 + 1, 4, none⟩) (fun _ => rfl) _
    clear f0 f1 f2 f3 f4 P2 a0 a1 a2 a3 a4
    generalize (((w'.setCell ⟨w.heap.size + 1 + 1, 2, none⟩ (.slice av 0 cv)).setCell ⟨w.heap.size + 1 + 1, 3, none⟩ (.int .i64 k)).setCell ⟨w.heap.size + 1 + 1, 4, none⟩ (.int .i64 q)) = wz at p2 he ⊢
    have p1 := (he.block (w.heap.size + 1) (lt_of_heap P1.out) (by omega)).trans P1.out
    have hb3 := HB3.out.trans (he.below (B := w.heap.size) (fun k hk => by omega) HB3.out.size)
    have hrd := HRD.out.eff he (fun q hq hf => by have := (HRD.out.lt q hq).1; simp at this; omega)
    have a0 := blk_cell p2 0
    have a1 := blk_cell p2 1
    have a2 := blk_cell p2 2
    have a3 := blk_cell p2 3
    have a4 := blk_cell p2 4
    have b0 := blk_cell p1 0
    have b1 := blk_cell p1 1
    have b2 := blk_cell p1 2
    have b3 := blk_cell p1 3
    have b4 := blk_cell p1 4
    have g0 := blk_frozen p1 0
    have g1 := blk_frozen p1 1
    have g2 := blk_frozen p1 2
    have g3 := blk_frozen p1 3
    have g4 := blk_frozen p1 4
    simp at a0 a1 a2 a3 a4 b0 b1 b2 b3 b4
    have he5 := fun (u0 u1 u2 u3 u4 : Value) => (((((Eff.refl (fun k => k = w.heap.size + 1) wz).setCell (p := ⟨w.heap.size + 1, 0, none⟩) (fun _ => rfl) u0).setCell (p := ⟨w.heap.size + 1, 1, none⟩) (fun _ => rfl) u1).setCell (p := ⟨w.heap.size + 1, 2, none⟩) (fun _ => rfl) u2).setCell (p := ⟨w.heap.size + 1, 3, none⟩) (fun _ => rfl) u3).setCell (p := ⟨w.heap.size + 1, 4, none⟩) (fun _ => rfl) u4
    have HRD3 := Lib.hid (fun (u0 u1 u2 u3 u4 : Value) => hrd.eff (he5 u0 u1 u2 u3 u4) (fun q hq hf => by have := (hrd.lt q hq).1; simp at this; omega))
    have HB5 := Lib.hid (fun (u0 u1 u2 u3 u4 : Value) => hb3.trans ((he5 u0 u1 u2 u3 u4).below (B := w.heap.size) (fun k hk => by omega) hb3.size))
    have R1 := Lib.hid p1
    clear p1 p2 hrd hb3 he he5
    go_wp2
    refine bodyPost_ret (by simp [results, Tryd.results33, go_sem, tower0 R1.out, tower1 R1.out, tower2 R1.out, tower3 R1.out, tower4 R1.out]; try rfl) rfl ?_
    exact ⟨_, rfl, own_base (HRD3.out _ _ _ _ _) (Nat.zero_le _), HB5.out _ _ _ _ _⟩
  | ok y =>
    obtain ⟨x, j⟩ := y
    rw [hres] at C1
    clear hres h3
    have hn0 := heap_alloc_new ((w.alloc (.cells #[.int .i64 9, sec, .int .i64 n, .int .u64 u, .int .i64 i, b, s, l] 46)).alloc (.cells #[.int .u64 0, .string ⟨#[]⟩, .slice none 0 0, .int .i64 0, .int .i64 0] 66)) (.cells #[.int .u64 0, .string ⟨#[]⟩, .slice none 0 0, .int .i64 k, .int .i64 0] 66)
    have hn1 := (Below.refl _ _).alloc (Nat.le_refl _) (.cells #[.int .u64 0, .string ⟨#[]⟩, .slice none 0 0, .int .i64 k, .int .i64 0] 66) |>.block _ (show w.heap.size + 1 < ((w.alloc (.cells #[.int .i64 9, sec, .int .i64 n, .int .u64 u, .int .i64 i, b, s, l] 46)).alloc (.cells #[.int .u64 0, .string ⟨#[]⟩, .slice none 0 0, .int .i64 0, .int .i64 0] 66)).heap.size by simp)
    have hn2 := heap_alloc_new (w.alloc (.cells #[.int .i64 9, sec, .int .i64 n, .int .u64 u, .int .i64 i, b, s, l] 46)) (.cells #[.int .u64 0, .string ⟨#[]⟩, .slice none 0 0, .int .i64 0, .int .i64 0] 66)
    go_enter Tryd.func33, Tryd.ntmps33
    go_wp2_with fail
    refine C1.mono ?_
    rintro e w' ⟨v, hb, h1, h2⟩
    obtain ⟨rfl, hrd⟩ := h2 x j rfl
    clear h1 h2 C1
    obtain ⟨av, cv, rfl⟩ := own_slice hrd
    simp only [List.length_nil] at hrd ⊢
    have hb3 := (told_below w _ _ _).trans (hb.mono (told_below w _ _ _).size)
    have p2 : w'.heap[w.heap.size + 1 + 1]? = some (.cells #[.int .u64 0, .string ⟨#[]⟩, .slice none 0 0, .int .i64 k, .int .i64 0] 66 (0, 0)) := (hb.block _ (by simp)).trans (by simpa using hn0)
    have p1 : w'.heap[w.heap.size + 1]? = some (.cells #[.int .u64 0, .string ⟨#[]⟩, .slice none 0 0, .int .i64 0, .int .i64 0] 66 (0, 0)) := (hb.block _ (by simp)).trans (hn1.trans (by simpa using hn2))
    have f0 := blk_frozen p2 0
    have f1 := blk_frozen p2 1
    have f2 := blk_frozen p2 2
    have f3 := blk_frozen p2 3
    have f4 := blk_frozen p2 4
    have a0 := blk_cell p2 0
    have a1 := blk_cell p2 1
    have a2 := blk_cell p2 2
    have a3 := blk_cell p2 3
    have a4 := blk_cell p2 4
    simp at a0 a1 a2 a3 a4
    have P1 := Lib.hid p1
    have P2 := Lib.hid p2
    have HRD := Lib.hid hrd
    have HB3 := Lib.hid hb3
    clear p1 p2 hn0 hn1 hn2 hb hrd hb3
    go_upto_region 27 with fail
    have p2 := blk_set (blk_set (blk_set P2.out 2 (.slice av (intL x).length cv)) 3 (.int .i64 ((k : Int) + (j : Int)))) 4 (.int .i64 0)
    have he : Eff (fun k => k = w.heap.size + 1 + 1) w' (((w'.setCell ⟨w.heap.size + 1 + 1, 2, none⟩ (.slice av (intL x).length cv)).setCell ⟨w.heap.size + 1 + 1, 3, none⟩ (.int .i64 ((k : Int) + (j : Int)))).setCell ⟨w.heap.size + 1 + 1, 4, none⟩ (.int .i64 0)) := (((Eff.refl (fun k => k = w.heap.size + 1 + 1) w').setCell (p := ⟨w.heap.size + 1 + 1, 2, none⟩) (fun _ => rfl) _).setCell (p := ⟨w.heap.size + 1 + 1, 3, none⟩) (fun _ => rfl) _).setCell (p := ⟨w.heap.size + 1 + 1, 4, none⟩) (fun _ => rfl) _
    clear f0 f1 f2 f3 f4 P2 a0 a1 a2 a3 a4
    generalize (((w'.setCell ⟨w.heap.size + 1 + 1, 2, none⟩ (.slice av (intL x).length cv)).setCell ⟨w.heap.size + 1 + 1, 3, none⟩ (.int .i64 ((k : Int) + (j : Int)))).setCell ⟨w.heap.size + 1 + 1, 4, none⟩ (.int .i64 0)) = wz at p2 he ⊢
    have p1 := (he.block (w.heap.size + 1) (lt_of_heap P1.out) (by omega)).trans P1.out
    have hb3 := HB3.out.trans (he.below (B := w.heap.size) (fun k hk => by omega) HB3.out.size)
    have hrd := HRD.out.eff he (fun q hq hf => by have := (HRD.out.lt q hq).1; simp at this; omega)
    have a0 := blk_cell p2 0
    have a1 := blk_cell p2 1
    have a2 := blk_cell p2 2
    have a3 := blk_cell p2 3
    have a4 := blk_cell p2 4
    have b0 := blk_cell p1 0
    have b1 := blk_cell p1 1
    have b2 := blk_cell p1 2
    have b3 := blk_cell p1 3
    have b4 := blk_cell p1 4
    have g0 := blk_frozen p1 0
    have g1 := blk_frozen p1 1
    have g2 := blk_frozen p1 2
    have g3 := blk_frozen p1 3
    have g4 := blk_frozen p1 4
    simp at a0 a1 a2 a3 a4 b0 b1 b2 b3 b4
    have he5 := fun (u0 u1 u2 u3 u4 : Value) => (((((Eff.refl (fun k => k = w.heap.size + 1) wz).setCell (p := ⟨w.heap.size + 1, 0, none⟩) (fun _ => rfl) u0).setCell (p := ⟨w.heap.size + 1, 1, none⟩) (fun _ => rfl) u1).setCell (p := ⟨w.heap.size + 1, 2, none⟩) (fun _ => rfl) u2).setCell (p := ⟨w.heap.size + 1, 3, none⟩) (fun _ => rfl) u3).setCell (p := ⟨w.heap.size + 1, 4, none⟩) (fun _ => rfl) u4
    have HRD3 := Lib.hid (fun (u0 u1 u2 u3 u4 : Value) => hrd.eff (he5 u0 u1 u2 u3 u4) (fun q hq hf => by have := (hrd.lt q hq).1; simp at this; omega))
    have HB5 := Lib.hid (fun (u0 u1 u2 u3 u4 : Value) => hb3.trans ((he5 u0 u1 u2 u3 u4).below (B := w.heap.size) (fun k hk => by omega) hb3.size))
    have R1 := Lib.hid p1
    clear p1 p2 hrd hb3 he he5
    go_wp2
    refine bodyPost_ret (by simp [results, Tryd.results33, go_sem, tower0 R1.out, tower1 R1.out, tower2 R1.out, tower3 R1.out, tower4 R1.out]; try rfl) rfl ?_
    exact ⟨_, rfl, own_base (HRD3.out _ _ _ _ _) (Nat.zero_le _), HB5.out _ _ _ _ _⟩

set_option maxRecDepth 100000 in
set_option maxHeartbeats 1000000 in
theorem told_any (w : World) (base : Nat) (a : Option Addr) (c : Nat) (bs : List UInt8) (ho : Own w base 5 (.slice a bs.length c) (bytesV bs)) (hl : bs.length ≤ 100000000) (k : Nat) (hk : k ≤ bs.length) (sec b s l : Value) (kd n u i : Int) (hn0 : -9223372036854775808 ≤ n) (hn1 : n ≤ 9223372036854775807) :
    Calls Tryd.prog 33 #[.slice a bs.length c, .int .i64 k, .agg #[.int .i64 kd, sec, .int .i64 n, .int .u64 u, .int .i64 i, b, s, l]] w (ToldP w (looks kd n (bs.drop k) k)) := by
  unfold looks
  by_cases h1 : kd = 1
  · subst h1; rw [if_pos rfl]; exact told_1 w base a c bs ho hl k hk sec b s l n u i hn0 hn1
  rw [if_neg h1]
  by_cases h2 : kd = 2
  · subst h2; rw [if_pos rfl]; exact told_2 w base a c bs ho hl k hk sec b s l n u i hn0 hn1
  rw [if_neg h2]
  by_cases h3 : kd = 3
  · subst h3; rw [if_pos rfl]; exact told_3 w base a c bs ho hl k hk sec b s l n u i hn0 hn1
  rw [if_neg h3]
  by_cases h10 : kd = 10
  · subst h10; rw [if_pos rfl]; exact told_10 w base a c bs ho hl k hk sec b s l n u i hn0 hn1
  rw [if_neg h10]
  by_cases h4 : kd = 4
  · subst h4; rw [if_pos rfl]; exact told_4 w base a c bs ho hl k hk sec b s l n u i hn0 hn1
  rw [if_neg h4]
  by_cases h5 : kd = 5
  · subst h5; rw [if_pos rfl]; exact told_5 w base a c bs ho hl k hk sec b s l n u i hn0 hn1
  rw [if_neg h5]
  by_cases h6 : kd = 6
  · subst h6; rw [if_pos rfl]; exact told_6 w base a c bs ho hl k hk sec b s l n u i hn0 hn1
  rw [if_neg h6]
  by_cases h7 : kd = 7
  · subst h7; rw [if_pos rfl]; exact told_7 w base a c bs ho hl k hk sec b s l n u i hn0 hn1
  rw [if_neg h7]
  by_cases h8 : kd = 8
  · subst h8; rw [if_pos rfl]; exact told_8 w base a c bs ho hl k hk sec b s l n u i hn0 hn1
  rw [if_neg h8]
  by_cases h9 : kd = 9
  · subst h9; rw [if_pos rfl]; exact told_9 w base a c bs ho hl k hk sec b s l n u i hn0 hn1
  rw [if_neg h9]
  have t1 : (kd == 1) = false := by simpa using h1
  have t2 : (kd == 2) = false := by simpa using h2
  have t3 : (kd == 3) = false := by simpa using h3
  have t10 : (kd == 10) = false := by simpa using h10
  have t4 : (kd == 4) = false := by simpa using h4
  have t5 : (kd == 5) = false := by simpa using h5
  have t6 : (kd == 6) = false := by simpa using h6
  have t7 : (kd == 7) = false := by simpa using h7
  have t8 : (kd == 8) = false := by simpa using h8
  have t9 : (kd == 9) = false := by simpa using h9
  clear ho h1 h2 h3 h10 h4 h5 h6 h7 h8 h9
  go_enter Tryd.func33, Tryd.ntmps33
  go_wp2
  go_returns
  exact ⟨_, rfl, own_nil _ 0 _, told_below _ _ _ _⟩

end Go.Proofs.YtmmflhippbegaaaDoor
