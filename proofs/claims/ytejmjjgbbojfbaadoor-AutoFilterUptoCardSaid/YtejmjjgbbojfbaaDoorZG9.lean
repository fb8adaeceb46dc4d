/- Merged: Heads, Past, InsP, Mach, TermP. -/
import Derived.Test.YtejmjjgbbojfbaaDoorZG8
import Derived.Test.YtejmjjgbbojfbaaDoorZG3
import Derived.BigQuiet
import Derived.StillTailTactics
import Derived.Handy
/- dict: Heads. -/
namespace Go.Proofs.YtejmjjgbbojfbaaDoor
set_option linter.unusedVariables false
open Go.ChangeShapes Go.WideShapes Go.ChangeAt Go.RowKit

set_option maxRecDepth 100000 in
set_option maxHeartbeats 1000000 in
theorem headsc_any (W : World) (base q bd bf bk : Nat) (v : Value) (es : List EntV) (hD : DictAt W base q v es) (key : ByteArray) (s : Nat) (hd : W.cell? ⟨bd, 0, none⟩ = some (.pointer (some ⟨q, 0, none⟩))) (hf : W.cell? ⟨bf, 0, none⟩ = some (.int .i64 s)) (hk : W.cell? ⟨bk, 0, none⟩ = some (.string key))
    (i : Nat) (hi : s + i < es.length) (hel : es.length ≤ 1000000000) :
    Calls Tryd.prog 90 #[.int .i64 i, .pointer (some ⟨bd, 0, none⟩), .pointer (some ⟨bf, 0, none⟩), .pointer (some ⟨bk, 0, none⟩)] W fun e w' => e = .returned (.bool (!pre key.data.toList (keyAt es (s + i)).data.toList)) ∧ ∃ m, w' = W.drewN m := by
  obtain ⟨a, c, rfl, hc, hat⟩ := hD.sl
  obtain ⟨g, rfl, hg⟩ := hat (s + i) hi
  have hgk := (hg).k
  rw [← keyAt_eq es (s + i) hi] at hgk
  generalize keyAt es (s + i) = ky at hgk ⊢
  have i0 : ((s : Int) + (i : Int)) = ((s + i : Nat) : Int) := rfl
  obtain ⟨x, hx⟩ : ∃ x, s + i = x := ⟨_, rfl⟩
  have w1 : IntKind.i64.wrap ((s : Int) + (i : Int)) = (x : Int) := by rw [i0, hx, IntKind.wrap_i64]; omega
  rw [hx] at hgk hi
  have i1 : (x : Int) < (es.length : Int) := by omega
  have tx := ext_take ky key.size
  have tk2 := ba_list key
  have hkl : key.data.toList.length = key.size := Array.length_toList (xs := key.data)
  have hkl2 : ky.data.toList.length = ky.size := Array.length_toList (xs := ky.data)
  obtain ⟨P, hP⟩ : ∃ P, pre key.data.toList ky.data.toList = P := ⟨_, rfl⟩
  rw [hP]
  by_cases hsz : key.size ≤ ky.size
  · have t0 : decide (ky.size < key.size) = false := decide_eq_false (by omega)
    have t1 : ((ky.extract 0 key.size).toList == key.toList) = P := by
      rw [tx, tk2, ← hP]; unfold pre
      rw [hkl, hkl2, decide_eq_true hsz, Bool.true_and]
    clear tx tk2 hkl hkl2 hP hg hat hD hx i0
    go_enter Tryd.func90, Tryd.ntmps90
    go_wp2
    go_quiet (fail)
    go_wp2
    go_quiet (fail)
    go_wp2
    go_ret
    exact ⟨rfl, _, World.drewN_drewN ..⟩
  · have t0 : decide (ky.size < key.size) = true := decide_eq_true (by omega)
    have hPf : P = false := by
      rw [← hP]; unfold pre
      rw [hkl, hkl2, decide_eq_false hsz, Bool.false_and]
    subst hPf
    clear tx tk2 hkl hkl2 hP hg hat hD hx i0
    go_enter Tryd.func90, Tryd.ntmps90
    go_wp2
    go_quiet (fail)
    go_wp2
    go_quiet (fail)
    go_wp2
    go_ret
    exact ⟨rfl, _, World.drewN_drewN ..⟩
set_option maxRecDepth 100000 in
set_option maxHeartbeats 1000000 in
theorem heads_any (w : World) (base q : Nat) (v : Value) (es : List EntV) (hD : DictAt w base q v es) (hr : rising none es) (hel : es.length ≤ 1000000000) (key : ByteArray) :
    Calls Tryd.prog 77 #[.pointer (some ⟨q, 0, none⟩), .string key] w fun e w' => e = .returned (.tuple #[.int .i64 (seekP es key.data.toList : Nat), .int .i64 (seekP es key.data.toList + headsN es key.data.toList : Nat)]) ∧ Below w.heap.size w w' := by
  have hmf : ∀ (fn : Fn) (first cap : Array Value) (w : World), (Instr.makeFunc fn first cap).run Tryd.prog w = .ok (.func fn first cap) w := fun _ _ _ _ => rfl
  obtain ⟨w2, hw2⟩ : ∃ w2, w2 = (w.alloc (.cells #[.pointer (some ⟨q, 0, none⟩)] 68)).alloc (.cells #[.string key] 9) := ⟨_, rfl⟩
  have hb2 : Below w.heap.size w w2 := by rw [hw2]; exact ((Below.refl _ _).alloc (Nat.le_refl _) _).alloc (by simp) _
  have hz2 : w2.heap.size = w.heap.size + 1 + 1 := by rw [hw2]; simp
  have hD2 := hD.below hb2 (Nat.le_refl _)
  have c1 : w2.heap[w.heap.size]? = some (.cells #[.pointer (some ⟨q, 0, none⟩)] 68 (0, 0)) := by rw [hw2]; exact (Below.heap_alloc _ _ _ (by simp)).trans (heap_alloc_new w _)
  have c2 : w2.heap[w.heap.size + 1]? = some (.cells #[.string key] 9 (0, 0)) := by
    rw [hw2]; have := heap_alloc_new (w.alloc (.cells #[.pointer (some ⟨q, 0, none⟩)] 68)) (.cells #[.string key] 9); rwa [World.size_alloc] at this
  have C1 := seek_any w2 base q v es hD2 hr hel key
  have hle := headsN_le es key.data.toList
  have hin := fun t h h1 h2 => heads_in es key.data.toList t h h1 h2
  have hhi := fun t h ht => heads_out hr key.data.toList t h ht
  obtain ⟨S, hS⟩ : ∃ S, seekP es key.data.toList = S := ⟨_, rfl⟩
  obtain ⟨B, hB⟩ : ∃ B, headsN es key.data.toList = B := ⟨_, rfl⟩
  rw [hS] at hle hin hhi C1 ⊢
  rw [hB] at hle hin hhi ⊢
  have HIN := Lib.hid hin
  have HHI := Lib.hid hhi
  have HB2 := Lib.hid hb2
  have HD2 := Lib.hid hD2
  have HC1 := Lib.hid c1
  have HC2 := Lib.hid c2
  have HZ2 := Lib.hid hz2
  rw [hw2] at C1
  have HW2 := Lib.hid hw2
  clear hin hhi hS hB hr hD hD2 hb2 c1 c2 hz2 hw2
  go_enter Tryd.func77, Tryd.ntmps77
  go_wp2_with fail
  refine C1.mono ?_
  rintro e w3 ⟨rfl, hb3⟩
  clear C1
  rw [← HW2.out] at hb3
  have hd3 := HD2.out.below hb3 (Nat.le_refl _)
  have hb03 := HB2.out.trans (hb3.mono HB2.out.size)
  have hz3 := hb3.size
  rw [HZ2.out] at hz3
  obtain ⟨W4, hW4⟩ : ∃ W4, W4 = w3.alloc (.cells #[.int .i64 S] 3) := ⟨_, rfl⟩
  have hb4 : Below w3.heap.size w3 W4 := by rw [hW4]; exact (Below.refl _ _).alloc (Nat.le_refl _) _
  have hd4 := hd3.below hb4 (Nat.le_refl _)
  have hb04 := hb03.trans (hb4.mono hb03.size)
  have d1 : W4.cell? ⟨w.heap.size, 0, none⟩ = some (.pointer (some ⟨q, 0, none⟩)) := blk_cell ((hb4.block _ (by omega)).trans ((hb3.block _ (by rw [HZ2.out]; omega)).trans HC1.out)) 0
  have d2 : W4.cell? ⟨w.heap.size + 1, 0, none⟩ = some (.string key) := blk_cell ((hb4.block _ (by omega)).trans ((hb3.block _ (by rw [HZ2.out]; omega)).trans HC2.out)) 0
  have d3 : W4.cell? ⟨w3.heap.size, 0, none⟩ = some (.int .i64 S) := by rw [hW4]; exact blk_cell (heap_alloc_new w3 _) 0
  have C2 := fun m => (search_any 90 #[.pointer (some ⟨w.heap.size, 0, none⟩), .pointer (some ⟨w3.heap.size, 0, none⟩), .pointer (some ⟨w.heap.size + 1, 0, none⟩)] (es.length - S) B (fun i => !pre key.data.toList (keyAt es (S + i)).data.toList) (W4.drewN m) (fun args w => by
      have h1 : Tryd.prog.funcs[(90 : Nat)]? = some Tryd.f90 := by kernel_rfl
      simp [callFunc, h1, mark]; first | rfl | (kernel_rfl)) (by omega)
    (fun k i hi => (headsc_any ((W4.drewN m).drewN k) base q w.heap.size w3.heap.size (w.heap.size + 1) _ es ((hd4.drewN m).drewN k) key S d1 d3 d2 i (by omega) hel).mono (fun _ _ ⟨he, n, hn⟩ => ⟨he, k + n, by rw [hn, World.drewN_drewN]⟩))
    (by omega) (fun t ht => by rw [keyAt_eq es (S + t) (by omega)]; have := HIN.out (S + t) (by omega) (by omega) (by omega); unfold EntV.K at this; rw [this]; rfl)
    (fun t h1 h2 => by rw [keyAt_eq es (S + t) (by omega)]; have := HHI.out (S + t) (by omega) (by omega); unfold EntV.K at this; rw [this]; rfl)).mono
      (R' := fun e w' => e = .returned (.int .i64 B) ∧ ∃ q, w' = W4.drewN q) (fun _ _ ⟨he, n, hn⟩ => ⟨he, m + n, by rw [hn, World.drewN_drewN]⟩)
  rw [show (((es.length - S : Nat)) : Int) = (es.length : Int) - (S : Int) by omega] at C2
  obtain ⟨a, c, rfl, hc, hat⟩ := hd4.sl
  have HB4 := Lib.hid hb04
  have HW4 := Lib.hid hW4
  rw [hW4] at C2 hc d1 d2 d3
  have hSl : S + B ≤ 1000000000 := by omega
  clear hb3 hd3 hb03 hz3 hb4 hd4 hb04 hat hW4
  go_upto_region 2 with fail
  go_quiet ((go_at_call 89; with_reducible exact C2 _))
  clear C2
  go_wp2
  go_quiet (fail)
  go_wp2
  go_ret2
  rw [← HW4.out]
  exact ⟨rfl, below_drewN (below_drewN HB4.out _) _⟩
end Go.Proofs.YtejmjjgbbojfbaaDoor

/- auto.past: the first entry behind all that begin with a head. -/
namespace Go.Proofs.YtejmjjgbbojfbaaDoor
set_option linter.unusedVariables false
open Go.ChangeShapes Go.WideShapes Go.ChangeAt Go.RowKit

set_option maxRecDepth 100000 in
theorem past_any (w : World) (base q : Nat) (v : Value) (es : List EntV) (hD : DictAt w base q v es) (hr : rising none es) (hel : es.length ≤ 1000000000) (key : ByteArray) :
    Calls Tryd.prog 78 #[.pointer (some ⟨q, 0, none⟩), .string key] w fun e w' => e = .returned (.int .i64 (seekP es key.data.toList + headsN es key.data.toList : Nat)) ∧ Below w.heap.size w w' := by
  have C := heads_any w base q v es hD hr hel key
  obtain ⟨a, ha⟩ : ∃ a, seekP es key.data.toList + headsN es key.data.toList = a := ⟨_, rfl⟩
  obtain ⟨b, hb⟩ : ∃ b, seekP es key.data.toList = b := ⟨_, rfl⟩
  rw [ha, hb] at C
  rw [ha]
  clear hD hr ha hb
  go_enter Tryd.func78, Tryd.ntmps78
  go_wp2_with fail
  refine C.mono ?_
  rintro e w1 ⟨rfl, hb⟩
  clear C
  go_wp2
  go_ret
  exact ⟨rfl, hb⟩
end Go.Proofs.YtejmjjgbbojfbaaDoor

/- AutoTerms, AutoFilter, plain: texts put in order; the entries made of them. -/
namespace Go.Proofs.YtejmjjgbbojfbaaDoor
set_option linter.unusedVariables false

/-- a comes before b. -/
def ltT (a b : ByteArray) : Bool := Go.Op.bytesLess a.data.toList b.data.toList
/-- Texts in order, each once. -/
def RisT (l : List ByteArray) : Prop := l.Pairwise fun a b => ltT a b = true
theorem ltT_trans {a b c : ByteArray} (h : ltT a b = true) (h2 : ltT b c = true) : ltT a c = true := bl_trans _ _ _ h h2
theorem bl_total : ∀ S T : List UInt8, Go.Op.bytesLess S T = false → Go.Op.bytesLess T S = false → S = T
  | [], [], _, _ => rfl
  | [], y :: T, h, _ => by simp [Go.Op.bytesLess] at h
  | x :: S, [], _, h => by simp [Go.Op.bytesLess] at h
  | x :: S, y :: T, h1, h2 => by
    simp only [Go.Op.bytesLess, Bool.or_eq_false_iff, decide_eq_false_iff_not, Bool.and_eq_false_iff] at h1 h2
    have hxy : x = y := by
      have a := h1.1
      have b := h2.1
      rw [UInt8.lt_iff_toNat_lt] at a b
      exact UInt8.toNat_inj.1 (by omega)
    subst hxy
    have h3 : Go.Op.bytesLess S T = false := by
      rcases h1.2 with h | h
      · simp at h
      · exact h
    have h4 : Go.Op.bytesLess T S = false := by
      rcases h2.2 with h | h
      · simp at h
      · exact h
    rw [bl_total S T h3 h4]
theorem ba_ext {a b : ByteArray} (h : a.data.toList = b.data.toList) : a = b := by
  cases a; cases b
  congr 1
  exact Array.toList_inj.1 h
theorem ltT_total {a b : ByteArray} (h : ltT a b = false) (hne : a ≠ b) : ltT b a = true := by
  cases h2 : ltT b a with
  | true => rfl
  | false => exact absurd (ba_ext (bl_total _ _ h h2)) hne
theorem ris_ins {l : List ByteArray} {k : ByteArray} {i : Nat} (h : RisT l) (hi : i ≤ l.length) (h1 : ∀ j (hj : j < l.length), j < i → ltT l[j] k = true) (h2 : ∀ (hl : i < l.length), ltT l[i] k = false ∧ l[i] ≠ k) : RisT (l.take i ++ k :: l.drop i) := by
  unfold RisT at h ⊢
  have hsplit : (l.take i ++ l.drop i).Pairwise fun a b => ltT a b = true := by rw [List.take_append_drop]; exact h
  obtain ⟨p1, p2, p3⟩ := List.pairwise_append.1 hsplit
  have hk : ∀ x ∈ l.drop i, ltT k x = true := fun x hx => by
    obtain ⟨j, hj, e⟩ := List.getElem_of_mem hx
    rw [List.length_drop] at hj
    have hl : i < l.length := by omega
    obtain ⟨g1, g2⟩ := h2 hl
    have hki := ltT_total g1 g2
    rw [List.getElem_drop] at e
    by_cases h0 : j = 0
    · subst h0
      rw [← e]; exact hki
    · have := List.pairwise_iff_getElem.1 h i (i + j) hl (by omega) (by omega)
      rw [← e]; exact ltT_trans hki this
  refine List.pairwise_append.2 ⟨p1, List.pairwise_cons.2 ⟨hk, p2⟩, fun a ha b hb => ?_⟩
  obtain ⟨j, hj, e⟩ := List.getElem_of_mem ha
  rw [List.length_take] at hj
  rw [List.getElem_take] at e
  have hak : ltT a k = true := by rw [← e]; exact h1 j (by omega) (by omega)
  rcases List.mem_cons.1 hb with rfl | hb
  · exact hak
  · exact ltT_trans hak (hk b hb)
/-- The i-th entry. -/
def mkE (rows : List ByteArray) (i : Nat) : EntV := ⟨rows.getD i ⟨#[]⟩, (i : Nat), (2 * i : Nat), (i : Nat), 1⟩
def entsN (rows : List ByteArray) (n : Nat) : List EntV := (List.range n).map (mkE rows)
theorem entsN_succ (rows : List ByteArray) (n : Nat) : entsN rows (n + 1) = entsN rows n ++ [mkE rows n] := by simp [entsN, List.range_succ]
theorem entsN_length (rows : List ByteArray) (n : Nat) : (entsN rows n).length = n := by simp [entsN]
theorem entsN_get (rows : List ByteArray) (n i : Nat) (h : i < (entsN rows n).length) : (entsN rows n)[i] = mkE rows i := by simp [entsN]
theorem mkE_K {rows : List ByteArray} {i : Nat} (h : i < rows.length) : (mkE rows i).K = rows[i].data.toList := by
  unfold mkE EntV.K
  simp [h]
theorem rising_of : ∀ (l : List EntV) (prev : Option (List UInt8)), l.Pairwise (fun a b => Go.Op.bytesLess a.K b.K = true) → (∀ x ∈ l, above prev x.K = true) → rising prev l
  | [], _, _, _ => trivial
  | e :: l, prev, h, hp => by
    obtain ⟨h1, h2⟩ := List.pairwise_cons.1 h
    exact ⟨hp e (List.mem_cons_self ..), rising_of l (some e.K) h2 fun x hx => h1 x hx⟩
theorem ents_rising {rows : List ByteArray} (h : RisT rows) : rising none (entsN rows rows.length) := by
  refine rising_of _ none ?_ (fun x _ => rfl)
  refine List.pairwise_iff_getElem.2 fun i j hi hj hij => ?_
  rw [entsN_length] at hi hj
  rw [entsN_get, entsN_get, mkE_K hi, mkE_K hj]
  exact List.pairwise_iff_getElem.1 h i j hi hj hij
theorem ents_ok {rows : List ByteArray} (h : ∀ x ∈ rows, 1 ≤ x.size ∧ x.size ≤ 65) (hn : rows.length ≤ 1000000) : ∀ e ∈ entsN rows rows.length, entOk e = true := fun e he => by
  obtain ⟨i, hi, e1⟩ := List.getElem_of_mem he
  rw [entsN_length] at hi
  rw [entsN_get] at e1
  have h1 := h _ (List.getElem_mem hi)
  have h2 : rows[i].data.toList.length = rows[i].size := Array.length_toList (xs := rows[i].data)
  have hK : e.K = rows[i].data.toList := by rw [← e1, mkE_K hi]
  have n0 : ∀ x : Nat, x ≤ 2000000 → numOk (x : Int) = true := fun x hx => numOk_cast (by omega)
  unfold entOk
  rw [hK, decide_eq_true (by rw [h2]; exact h1), Bool.true_and, ← e1]
  show (numOk ((i : Nat) : Int) && (numOk ((2 * i : Nat) : Int) && (numOk ((i : Nat) : Int) && numOk 1))) = true
  rw [n0 i (by omega), n0 (2 * i) (by omega)]
  rfl
end Go.Proofs.YtejmjjgbbojfbaaDoor

/- Machines: an automaton behind its interface; behind, Accepts, Alive of whatever machine. -/
namespace Go.Proofs.YtejmjjgbbojfbaaDoor
set_option linter.unusedVariables false
open Go.ChangeShapes Go.WideShapes Go.ChangeAt Go.RowKit

/-- What a machine computes: descriptions are texts, the empty one is dead. -/
structure Mach where
  start : ByteArray
  step : ByteArray → UInt8 → ByteArray
  acc : ByteArray → Bool
def stepM (M : Mach) (d : ByteArray) (b : UInt8) : ByteArray := if d = ⟨#[]⟩ then ⟨#[]⟩ else M.step d b
def runM (M : Mach) (s : List UInt8) : ByteArray := s.foldl (stepM M) M.start
theorem runM_snoc (M : Mach) (s : List UInt8) (b : UInt8) : runM M (s ++ [b]) = stepM M (runM M s) b := by
  unfold runM
  rw [List.foldl_append]; rfl
theorem stepM_dead (M : Mach) (t : List UInt8) : t.foldl (stepM M) ⟨#[]⟩ = ⟨#[]⟩ := by
  induction t with
  | nil => rfl
  | cons b t ih => rw [List.foldl_cons, show stepM M ⟨#[]⟩ b = ⟨#[]⟩ by unfold stepM; rw [if_pos rfl]]; exact ih
theorem runM_dead (M : Mach) (s t : List UInt8) (h : runM M s = ⟨#[]⟩) : runM M (s ++ t) = ⟨#[]⟩ := by
  have e : runM M (s ++ t) = t.foldl (stepM M) (runM M s) := by unfold runM; rw [List.foldl_append]
  rw [e, h]; exact stepM_dead M t
theorem runM_take (M : Mach) (s : ByteArray) (i : Nat) (h : runM M (s.data.toList.take i) = ⟨#[]⟩) : runM M s.data.toList = ⟨#[]⟩ := by
  have := runM_dead M (s.data.toList.take i) (s.data.toList.drop i) h
  rwa [List.take_append_drop] at this
def accM (M : Mach) (s : List UInt8) : Bool := decide (runM M s ≠ ⟨#[]⟩) && M.acc (runM M s)
def aliveM (M : Mach) (s : List UInt8) : Bool := decide (runM M s ≠ ⟨#[]⟩)

theorem toList_nil {d : ByteArray} (h : d.toList.isEmpty = true) : d = ⟨#[]⟩ := by
  have h1 : d.toList = [] := List.isEmpty_iff.1 h
  rw [ByteArray.toList_eq] at h1
  cases d with | mk a => simp at h1; rw [h1]
/-- A method's call. -/
def Meth (T : TypeId) (x : Value) (nm : String) (f : FuncId) : Prop := (∀ w : World, (Go.method 311 T x nm).run Tryd.prog w = .ok (f, x) w) ∧ ∀ (args : Array Value) (w : World), (callFunc f args).run Tryd.prog w = .ok (.enter f args) w
/-- At p lies an automaton of the machine M. -/
def IsAuto (w : World) (p : Nat) (M : Mach) : Prop :=
  p < w.heap.size ∧ ∃ (T : TypeId) (x : Value) (fs ft fa : FuncId) (I : ByteArray → Prop), (w.cell? ⟨p, 0, none⟩ = some (.iface T x) ∧ ∀ d, I d → d.size ≤ 4000000000) ∧ Meth T x "concord/auto.start" fs ∧ Meth T x "concord/auto.step" ft ∧ Meth T x "concord/auto.accepts" fa ∧
    (M.start ≠ ⟨#[]⟩ → I M.start) ∧ (∀ d b, I d → d ≠ ⟨#[]⟩ → M.step d b ≠ ⟨#[]⟩ → I (M.step d b)) ∧
    ∀ w', Below w.heap.size w w' → Calls Tryd.prog fs #[x] w' (fun e w'' => e = .returned (.string M.start) ∧ Below w'.heap.size w' w'') ∧
      (∀ d (b : UInt8), I d → d ≠ ⟨#[]⟩ → Calls Tryd.prog ft #[x, .string d, .int .u8 (b.toNat : Nat)] w' (fun e w'' => e = .returned (.string (M.step d b)) ∧ Below w'.heap.size w' w'')) ∧
      (∀ d, I d → d ≠ ⟨#[]⟩ → Calls Tryd.prog fa #[x, .string d] w' (fun e w'' => e = .returned (.bool (M.acc d)) ∧ Below w'.heap.size w' w''))
theorem IsAuto.below {w w1 : World} {p : Nat} {M : Mach} (h : IsAuto w p M) (hb : Below w.heap.size w w1) : IsAuto w1 p M := by
  obtain ⟨hp, T, x, fs, ft, fa, I, hc, h1, h2, h3, h4, h5, h6⟩ := h
  exact ⟨Nat.lt_of_lt_of_le hp hb.size, T, x, fs, ft, fa, I, ⟨by rw [hb.cell hp]; exact hc.1, hc.2⟩, h1, h2, h3, h4, h5, fun w' hb' => h6 w' (hb.trans (hb'.mono hb.size))⟩

theorem inv_run (M : Mach) (I : ByteArray → Prop) (h4 : M.start ≠ ⟨#[]⟩ → I M.start) (h5 : ∀ d b, I d → d ≠ ⟨#[]⟩ → M.step d b ≠ ⟨#[]⟩ → I (M.step d b)) (s : List UInt8) : runM M s ≠ ⟨#[]⟩ → I (runM M s) := by
  have key : ∀ (t : List UInt8) (d : ByteArray), (d ≠ ⟨#[]⟩ → I d) → t.foldl (stepM M) d ≠ ⟨#[]⟩ → I (t.foldl (stepM M) d) := by
    intro t
    induction t with
    | nil => exact fun d h hn => h hn
    | cons b t ih =>
      intro d h
      rw [List.foldl_cons]
      refine ih _ fun hn => ?_
      unfold stepM at hn ⊢
      by_cases h0 : d = ⟨#[]⟩
      · rw [if_pos h0] at hn; exact absurd rfl hn
      · rw [if_neg h0] at hn ⊢; exact h5 d b (h h0) h0 hn
  exact key s M.start h4

set_option maxRecDepth 100000 in
set_option maxHeartbeats 1000000 in
theorem behind_any (w : World) (p : Nat) (M : Mach) (h : IsAuto w p M) (s : ByteArray) (hs : s.size ≤ 1000000000000) :
    Calls Tryd.prog 43 #[.pointer (some ⟨p, 0, none⟩), .string s] w fun e w' => e = .returned (.string (runM M s.data.toList)) ∧ Below w.heap.size w w' := by
  obtain ⟨hp, T, x, fs, ft, fa, I, ⟨hc, -⟩, h1, h2, h3, h4, h5, h6⟩ := h
  have C0 := (h6 w (Below.refl _ _)).1
  have H6 := Lib.hid h6
  have H4 := Lib.hid h4
  have H5 := Lib.hid h5
  have m1 := h1.1 w
  have e1 := h1.2 #[x] w
  have HM := Lib.hid h2
  have hsl : s.size = s.data.toList.length := (Array.length_toList (xs := s.data)).symm
  have HSL := Lib.hid hsl
  clear h6 h4 h5 h1 h2 h3 hsl
  go_enter Tryd.func43, Tryd.ntmps43
  go_wp2_with fail
  refine C0.mono ?_
  rintro e w1 ⟨rfl, hb1⟩
  clear C0 m1 e1
  have HB1 := Lib.hid hb1
  clear hb1
  go_wp2
  go_loopw [5, 6] (fun s5 s6 wr => ∃ i : Nat, s6 = .int .i64 i ∧ i ≤ s.size ∧ s5 = .string (runM M (s.data.toList.take i)) ∧ (runM M (s.data.toList.take i) ≠ ⟨#[]⟩ → I (runM M (s.data.toList.take i))) ∧ Below w.heap.size w wr) (fun _ s6 _ => s.size - (intOf s6).toNat)
  case atStart => exact ⟨0, rfl, Nat.zero_le _, rfl, H4.out, HB1.out⟩
  case round =>
    obtain ⟨i, rfl, hi, rfl, hI, hb⟩ := hrel
    by_cases hlt : i < s.size
    · obtain ⟨d, hd⟩ : ∃ d, runM M (s.data.toList.take i) = d := ⟨_, rfl⟩
      rw [hd] at hI ⊢
      have HD := Lib.hid hd
      have HI := Lib.hid hI
      clear hd hI
      have hc1 : wr.cell? ⟨p, 0, none⟩ = some (.iface T x) := by rw [hb.cell hp]; exact hc
      by_cases h0 : d = ⟨#[]⟩
      · subst h0
        go_wp2
        go_ret
        exact ⟨by rw [runM_take M s i HD.out]; rfl, hb⟩
      · have q : d.toList.isEmpty = false := by
          cases hq : d.toList.isEmpty
          · rfl
          · exact absurd (toList_nil hq) h0
        have hil : i < s.data.toList.length := by rw [← HSL.out]; exact hlt
        have C2 := (H6.out wr.drew hb.drew).2.1 d s[i] (HI.out h0) h0
        have m2 := HM.out.1 wr.drew
        have e2 := HM.out.2 #[x, .string d, .int .u8 ((s[i]'hlt).toNat : Nat)] wr.drew
        have hnext : runM M (s.data.toList.take (i + 1)) = M.step d (s[i]'hlt) := by
          rw [List.take_add_one, List.getElem?_eq_getElem hil, Option.toList_some, runM_snoc, HD.out]
          unfold stepM; rw [if_neg h0]; rfl
        have HN := Lib.hid hnext
        have HZ := Lib.hid h0
        have HB := Lib.hid hb
        clear h0 hb hnext
        go_wp2
        go_still_tail 10, (by kernel_rfl)
        change wpList _ _ _ _ _ (World.drew _)
        go_wp2_with fail
        refine C2.mono ?_
        rintro e w2 ⟨rfl, hb2⟩
        clear C2 m2 e2
        have HB2 := Lib.hid (HB.out.drew.trans (hb2.mono HB.out.drew.size))
        clear hb2
        go_wp2
        go_roundw
        case rel => exact ⟨i + 1, by go_num, by omega, by rw [HN.out], by rw [HN.out]; exact H5.out d _ (HI.out HZ.out) HZ.out, HB2.out⟩
        case measure => simp [intOf]; omega
    · obtain rfl : i = s.size := by omega
      have hall : runM M (s.data.toList.take s.size) = runM M s.data.toList := by rw [HSL.out, List.take_length]
      have HA := Lib.hid hall
      clear hall hI
      go_wp2
      go_ret
      exact ⟨by rw [← HA.out]; rfl, hb⟩

set_option maxRecDepth 100000 in
theorem accepts_any (w : World) (p : Nat) (M : Mach) (h : IsAuto w p M) (s : ByteArray) (hs : s.size ≤ 1000000000000) :
    Calls Tryd.prog 15 #[.pointer (some ⟨p, 0, none⟩), .string s] w fun e w' => e = .returned (.bool (accM M s.data.toList)) ∧ Below w.heap.size w w' := by
  have C0 := behind_any w p M h s hs
  have hI := h
  obtain ⟨hp, T, x, fs, ft, fa, I, ⟨hc, -⟩, h1, h2, h3, h4, h5, h6⟩ := hI
  have hinv := inv_run M I h4 h5 s.data.toList
  have H6 := Lib.hid h6
  have H3 := Lib.hid h3
  clear h6 h4 h5 h1 h2 h3 h
  obtain ⟨d, hd⟩ : ∃ d, runM M s.data.toList = d := ⟨_, rfl⟩
  have hac : accM M s.data.toList = (decide (d ≠ ⟨#[]⟩) && M.acc d) := by unfold accM; rw [hd]
  rw [hac]
  rw [hd] at C0 hinv
  clear hac hd
  go_enter Tryd.func15, Tryd.ntmps15
  go_wp2_with fail
  refine C0.mono ?_
  rintro e w1 ⟨rfl, hb1⟩
  clear C0
  by_cases h0 : d = ⟨#[]⟩
  · subst h0
    go_wp2
    go_ret
    exact ⟨by simp, hb1⟩
  · have q : d.toList.isEmpty = false := by
      cases hq : d.toList.isEmpty
      · rfl
      · exact absurd (toList_nil hq) h0
    have C2 := (H6.out w1 hb1).2.2 d (hinv h0) h0
    have m2 := H3.out.1 w1
    have e2 := H3.out.2 #[x, .string d] w1
    have hc1 : w1.cell? ⟨p, 0, none⟩ = some (.iface T x) := by rw [hb1.cell hp]; exact hc
    have HZ := Lib.hid h0
    have HB := Lib.hid hb1
    clear h0 hb1 hinv
    go_wp2_with fail
    refine C2.mono ?_
    rintro e w2 ⟨rfl, hb2⟩
    clear C2 m2 e2
    have HB2 := Lib.hid (HB.out.trans (hb2.mono HB.out.size))
    clear hb2
    go_wp2
    go_ret
    exact ⟨by rw [decide_eq_true HZ.out, Bool.true_and]; rfl, HB2.out⟩

set_option maxRecDepth 100000 in
theorem alive_any (w : World) (p : Nat) (M : Mach) (h : IsAuto w p M) (s : ByteArray) (hs : s.size ≤ 1000000000000) :
    Calls Tryd.prog 16 #[.pointer (some ⟨p, 0, none⟩), .string s] w fun e w' => e = .returned (.bool (aliveM M s.data.toList)) ∧ Below w.heap.size w w' := by
  have C0 := behind_any w p M h s hs
  obtain ⟨d, hd⟩ : ∃ d, runM M s.data.toList = d := ⟨_, rfl⟩
  have hac : aliveM M s.data.toList = decide (d ≠ ⟨#[]⟩) := by unfold aliveM; rw [hd]
  rw [hac]
  rw [hd] at C0
  clear hac hd h
  go_enter Tryd.func16, Tryd.ntmps16
  go_wp2_with fail
  refine C0.mono ?_
  rintro e w1 ⟨rfl, hb1⟩
  clear C0
  by_cases h0 : d = ⟨#[]⟩
  · subst h0
    go_wp2
    go_ret
    exact ⟨by simp, hb1⟩
  · have q : d.toList.isEmpty = false := by
      cases hq : d.toList.isEmpty
      · rfl
      · exact absurd (toList_nil hq) h0
    have HZ := Lib.hid h0
    clear h0
    go_wp2
    go_ret
    exact ⟨by rw [decide_eq_true HZ.out]; rfl, hb1⟩
end Go.Proofs.YtejmjjgbbojfbaaDoor

/- AutoTerms, AutoFilter, plain: the entries whose key is a head and behind it an accepted text. -/
namespace Go.Proofs.YtejmjjgbbojfbaaDoor
set_option linter.unusedVariables false

def entD (es : List EntV) (j : Nat) : EntV := (es[j]?).getD ⟨⟨#[]⟩, 0, 0, 0, 0⟩
theorem entD_eq (es : List EntV) (j : Nat) (h : j < es.length) : entD es j = es[j] := by unfold entD; rw [List.getElem?_eq_getElem h]; rfl
/-- The key is the head and behind it an accepted text. -/
def hitB (M : Mach) (h : List UInt8) (e : EntV) : Bool := pre h e.K && accM M (e.K.drop h.length)
/-- The hits among the first k, with their numbers. -/
def termsP (M : Mach) (h : List UInt8) (es : List EntV) (k : Nat) : List (Nat × EntV) := ((List.range k).filter fun i => hitB M h (entD es i)).map fun i => (i, entD es i)
theorem termsP_hit {M : Mach} {h : List UInt8} {es : List EntV} {k : Nat} (hh : hitB M h (entD es k) = true) : termsP M h es (k + 1) = termsP M h es k ++ [(k, entD es k)] := by
  unfold termsP
  rw [List.range_succ, List.filter_append, List.map_append]
  simp [hh]
theorem termsP_no {M : Mach} {h : List UInt8} {es : List EntV} {k : Nat} (hh : hitB M h (entD es k) = false) : termsP M h es (k + 1) = termsP M h es k := by
  unfold termsP
  rw [List.range_succ, List.filter_append, List.map_append]
  simp [hh]
theorem termsP_skip {M : Mach} {h : List UInt8} {es : List EntV} {k : Nat} : ∀ j, (∀ t, k ≤ t → t < k + j → hitB M h (entD es t) = false) → termsP M h es (k + j) = termsP M h es k
  | 0, _ => rfl
  | j + 1, hh => by
    rw [← Nat.add_assoc, termsP_no (hh (k + j) (by omega) (by omega)), termsP_skip j (fun t h1 h2 => hh t h1 (by omega))]
theorem termsP_to {M : Mach} {h : List UInt8} {es : List EntV} {k m : Nat} (hkm : k ≤ m) (hh : ∀ t, k ≤ t → t < m → hitB M h (entD es t) = false) : termsP M h es m = termsP M h es k := by
  have := termsP_skip (M := M) (h := h) (es := es) (k := k) (m - k) (fun t h1 h2 => hh t h1 (by omega))
  rwa [show k + (m - k) = m by omega] at this
theorem termsP_len (M : Mach) (h : List UInt8) (es : List EntV) (k : Nat) : (termsP M h es k).length ≤ k := by
  unfold termsP
  rw [List.length_map]
  exact Nat.le_trans (List.length_filter_le _ _) (by simp)
theorem termsP_prefix (M : Mach) (h : List UInt8) (es : List EntV) {k m : Nat} (hkm : k ≤ m) : termsP M h es k <+: termsP M h es m := by
  obtain ⟨d, rfl⟩ : ∃ d, m = k + d := ⟨m - k, by omega⟩
  clear hkm
  induction d with
  | zero => exact List.prefix_refl _
  | succ d ih =>
    rw [← Nat.add_assoc]
    cases hh : hitB M h (entD es (k + d)) with
    | true => rw [termsP_hit hh]; exact ih.trans (List.prefix_append _ _)
    | false => rw [termsP_no hh]; exact ih
/-- What a machine is dead behind, it stays dead behind. -/
theorem hit_dead {M : Mach} {h : List UInt8} {e f : EntV} {n : Nat} (he : pre h e.K = true) (hd : runM M ((e.K.drop h.length).take n) = ⟨#[]⟩) (hf : pre (e.K.take (h.length + n)) f.K = true) : hitB M h f = false := by
  obtain ⟨r, hr⟩ := (pre_iff _ _).1 he
  obtain ⟨s, hs⟩ := (pre_iff _ _).1 hf
  unfold hitB
  cases hp : pre h f.K with
  | false => rfl
  | true =>
    rw [Bool.true_and]
    have e1 : e.K.drop h.length = r := by rw [hr]; simp
    have e2 : f.K.drop h.length = r.take n ++ s := by
      rw [hs, hr, List.take_append, List.take_of_length_le (by omega), show h.length + n - h.length = n by omega, List.append_assoc, List.drop_left]
    rw [e1] at hd
    rw [e2]
    unfold accM
    rw [runM_dead M _ s hd]
    simp
theorem hit_at {M : Mach} {h : List UInt8} {e : EntV} (he : pre h e.K = true) : hitB M h e = accM M (e.K.drop h.length) := by
  unfold hitB; rw [he, Bool.true_and]
theorem hit_pre {M : Mach} {h : List UInt8} {e : EntV} (he : pre h e.K = false) : hitB M h e = false := by
  unfold hitB; rw [he, Bool.false_and]
/-- Behind the last that begins with the head no hit is left; ahead of the first there is none. -/
theorem terms_low {M : Mach} {es : List EntV} {h : List UInt8} : termsP M h es (seekP es h) = [] := by
  have := termsP_to (M := M) (h := h) (es := es) (k := 0) (m := seekP es h) (Nat.zero_le _) (fun t _ ht => by
    have hl := seekP_le es h
    rw [entD_eq es t (by omega)]
    exact hit_pre (heads_low es h t (by omega) ht))
  rw [this]; rfl
theorem terms_high {M : Mach} {es : List EntV} {h : List UInt8} (hr : rising none es) {i : Nat} (hi : seekP es h + headsN es h ≤ i) (hl : i ≤ es.length) : termsP M h es es.length = termsP M h es i :=
  termsP_to hl fun t h1 h2 => by
    rw [entD_eq es t h2]
    exact hit_pre (heads_out hr h t h2 (by omega))
/-- What a dead place skips. -/
theorem terms_skip {M : Mach} {es : List EntV} {h : List UInt8} (hr : rising none es) {i n : Nat} (hi : i < es.length) (h1 : seekP es h ≤ i) (h2 : i < seekP es h + headsN es h) (hd : runM M (((entD es i).K.drop h.length).take n) = ⟨#[]⟩)
    {j : Nat} (hj : j = max (i + 1) (seekP es ((entD es i).K.take (h.length + n)) + headsN es ((entD es i).K.take (h.length + n)))) : i < j ∧ j ≤ seekP es h + headsN es h ∧ termsP M h es j = termsP M h es i := by
  have hpi := heads_in es h i hi h1 h2
  rw [← entD_eq es i hi] at hpi
  obtain ⟨K, hK⟩ : ∃ K, (entD es i).K.take (h.length + n) = K := ⟨_, rfl⟩
  rw [hK] at hj
  have hhl : (entD es i).K.take h.length = h := by
    obtain ⟨r, hr9⟩ := (pre_iff _ _).1 hpi
    rw [hr9]; simp
  have hKh : ∀ X : List UInt8, pre K X = true → pre h X = true := fun X hX => by
    obtain ⟨s, hs⟩ := (pre_iff _ _).1 hX
    refine (pre_iff _ _).2 ⟨((entD es i).K.drop h.length).take n ++ s, ?_⟩
    rw [hs, ← hK, ← List.append_assoc]
    congr 1
    conv => lhs; rw [← List.take_append_drop h.length (entD es i).K, hhl]
    rw [List.take_append, List.take_of_length_le (by omega), show h.length + n - h.length = n by omega]
  have hKi : pre K (entD es i).K = true := (pre_iff _ _).2 ⟨(entD es i).K.drop (h.length + n), by rw [← hK, List.take_append_drop]⟩
  have hle := headsN_le es K
  have hse : seekP es K ≤ i := by
    by_cases g : seekP es K ≤ i
    · exact g
    · exfalso
      have := heads_low es K i hi (by omega)
      rw [← entD_eq es i hi, hKi] at this
      cases this
  have hin : ∀ t, i < t → t < seekP es K + headsN es K → hitB M h (entD es t) = false ∧ t < seekP es h + headsN es h := fun t g1 g2 => by
    have ht : t < es.length := by omega
    have g3 := heads_in es K t ht (by omega) g2
    refine ⟨hit_dead hpi hd (by rw [hK, entD_eq es t ht]; exact g3), ?_⟩
    by_cases g : t < seekP es h + headsN es h
    · exact g
    · exfalso
      have := heads_out hr h t ht (by omega)
      rw [hKh _ g3] at this
      cases this
  have hself : hitB M h (entD es i) = false := hit_dead hpi hd (by rw [hK]; exact hKi)
  refine ⟨by omega, ?_, termsP_to (by omega) fun t g1 g2 => ?_⟩
  · by_cases g : seekP es K + headsN es K ≤ i + 1
    · omega
    · have := (hin (seekP es K + headsN es K - 1) (by omega) (by omega)).2
      omega
  · by_cases g : t = i
    · rw [g]; exact hself
    · exact (hin t (by omega) (by omega)).1
end Go.Proofs.YtejmjjgbbojfbaaDoor
