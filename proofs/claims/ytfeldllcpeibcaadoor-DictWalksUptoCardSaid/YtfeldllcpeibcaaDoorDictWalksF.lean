/- DictWalks: the walk. -/
import Derived.Test.YtfeldllcpeibcaaDoorRefuses
import Derived.Test.YtfeldllcpeibcaaDoorEntsF
import Derived.Test.YtfeldllcpeibcaaDoorWalksE
import Derived.Sort.CutIn
namespace Go.Proofs.YtfeldllcpeibcaaDoor
set_option linter.unusedVariables false
open Go.ChangeShapes Go.WideShapes Go.ChangeAt Go.RowKit Go.Shelf
attribute [local go_sem] Oper.semAt_some

/-- The law's entries. -/
def wE (ks : List (List UInt8)) : List EntV := entsF (fun i => (i : Int)) (fun i => ((2 * i : Nat) : Int)) (fun i => ((3 * i : Nat) : Int)) (fun _ => 1) ks
theorem apEIn {F : Fence} {n0 : Nat} {w0 : World} {k : ByteArray} {d t a' s : Int} {base : Nat} {v : Value} {es : List EntV} (hown : RowE w0 base v es) (hlen : es.length ≤ 1000000000) (hbase : base ≤ w0.heap.size)
    {ops : Array Oper} {rest : List Oper} {o : Oper} {a : Act} {Q : Exit → Act → World → Prop} (hgd : o.guard = none) (x y : Operand)
    (ho : o.op = .call { callee := .builtin .append, args := #[x, y], argTypes := #[30, 30] }) (hs : a.eval x = v) (hy : a.eval y = .slice (some ⟨w0.heap.size, 0, none⟩) 1 1)
    (h : ∀ v' w', RowE w' base v' (es ++ [⟨k, d, t, a', s⟩]) → w0.grownBy w' v.ownBlock → wpListIn F n0 Tryd.prog ops Q rest (a.put o.dst v') w') :
    wpListIn F n0 Tryd.prog ops Q (o :: rest) a (w0.alloc (.cells #[.string k, .int .i64 d, .int .i64 t, .int .i64 a', .int .i64 s] 32)) := by
  obtain ⟨i0, hi, hrest⟩ := Option.map_eq_some_iff.1 ent_info
  simp only [Prod.mk.injEq] at hrest
  obtain ⟨h8, hby, hz⟩ := hrest
  obtain ⟨z, hz, hzs⟩ := Option.map_eq_some_iff.1 hz
  refine wpListIn_append_own (P := Tryd.prog) _ hgd x y 30 ho base 32 i0 z 5 48 Tryd.underlying30 hi hz h8 hby hzs (by decide) v es.length _ hs (World.ownsRow.alloc hown _) ⟨w0.heap.size, 0, none⟩ 1 1
    (EntV.cells ⟨k, d, t, a', s⟩) hy rfl (fun j x hx => ?_) ?_ (by unfold maxLen; omega) (by omega) (by simp; omega) ?_
  · rw [addr_add, Nat.zero_add, blk_cell (heap_alloc_new w0 _) j]
    rw [← hx]; simp [EntV.cells]
  · intro x hx
    simp only [EntV.cells, List.mem_cons, List.not_mem_nil, or_false] at hx
    rcases hx with rfl | rfl | rfl | rfl | rfl <;> rfl
  · intro v' w' h1 h2 h3
    refine h v' w' ?_ ?_
    · unfold RowE; rw [List.flatMap_append, List.length_append]; simpa using h1
    · exact ⟨h2.os, h2.tape, h2.output, Nat.le_trans (by simp) h2.size, fun k hk hne => (h2.block k (by simp; omega) hne).trans (Below.heap_alloc _ _ _ hk)⟩
/-- What lies in the law's boxes. -/
structure WB (W : World) (b5 b6 b7 : Nat) (stop : Int) (l : Value) : Prop where
  c5 : W.heap[b5]? = some (.cells #[.int .i64 stop] 3 (0, 0))
  c6 : W.heap[b6]? = some (.cells #[.bool false] 4 (0, 0))
  c7 : W.heap[b7]? = some (.cells #[l] 30 (0, 0))
theorem WB.lt {W : World} {b5 b6 b7 : Nat} {stop : Int} {l : Value} (h : WB W b5 b6 b7 stop l) : b5 < W.heap.size ∧ b6 < W.heap.size ∧ b7 < W.heap.size := ⟨lt_of_heap h.c5, lt_of_heap h.c6, lt_of_heap h.c7⟩
theorem WB.below {W W' : World} {b5 b6 b7 B : Nat} {stop : Int} {l : Value} (h : WB W b5 b6 b7 stop l) (hb : Below B W W') (hB : W.heap.size ≤ B) : WB W' b5 b6 b7 stop l :=
  ⟨(hb.block b5 (by have := h.lt.1; omega)).trans h.c5, (hb.block b6 (by have := h.lt.2.1; omega)).trans h.c6, (hb.block b7 (by have := h.lt.2.2; omega)).trans h.c7⟩
theorem WB.grown {W W' : World} {b5 b6 b7 : Nat} {stop : Int} {l : Value} {row : Option Nat} (h : WB W b5 b6 b7 stop l) (hg : W.grownBy W' row) (h5 : row ≠ some b5) (h6 : row ≠ some b6) (h7 : row ≠ some b7) : WB W' b5 b6 b7 stop l :=
  ⟨(hg.block b5 h.lt.1 (fun e => h5 e.symm)).trans h.c5, (hg.block b6 h.lt.2.1 (fun e => h6 e.symm)).trans h.c6, (hg.block b7 h.lt.2.2 (fun e => h7 e.symm)).trans h.c7⟩
theorem WB.put7 {W : World} {b5 b6 b7 : Nat} {stop : Int} {l l' : Value} (h : WB W b5 b6 b7 stop l) (h5 : b7 ≠ b5) (h6 : b7 ≠ b6) : WB (W.setCell ⟨b7, 0, none⟩ l') b5 b6 b7 stop l' :=
  ⟨(Below.heap_setCell W ⟨b7, 0, none⟩ _ _ (fun e => h5 e.symm)).trans h.c5, (Below.heap_setCell W ⟨b7, 0, none⟩ _ _ (fun e => h6 e.symm)).trans h.c6, blk_set h.c7 0 l'⟩
/-- What lies in the boxes of the loops: the walk's two, at, first. -/
structure LB (W : World) (b b15 q : Nat) (fr : Int) (A p : Nat) : Prop where
  k0 : W.heap[b]? = some (.cells #[.pointer (some ⟨q, 0, none⟩)] 24 (0, 0))
  k1 : W.heap[b + 1]? = some (.cells #[.int .i64 fr] 3 (0, 0))
  k2 : W.heap[b + 1 + 1]? = some (.cells #[.int .i64 (p : Nat)] 3 (0, 0))
  k3 : W.heap[b15]? = some (.cells #[.int .i64 (A : Nat)] 3 (0, 0))
theorem LB.lt {W : World} {b b15 q A p : Nat} {fr : Int} (h : LB W b b15 q fr A p) : b < W.heap.size ∧ b + 1 < W.heap.size ∧ b + 1 + 1 < W.heap.size ∧ b15 < W.heap.size := ⟨lt_of_heap h.k0, lt_of_heap h.k1, lt_of_heap h.k2, lt_of_heap h.k3⟩
theorem LB.below {W W' : World} {b b15 q A p B : Nat} {fr : Int} (h : LB W b b15 q fr A p) (hb : Below B W W') (hB : W.heap.size ≤ B) : LB W' b b15 q fr A p :=
  ⟨(hb.block _ (by have := h.lt.1; omega)).trans h.k0, (hb.block _ (by have := h.lt.2.1; omega)).trans h.k1, (hb.block _ (by have := h.lt.2.2.1; omega)).trans h.k2, (hb.block _ (by have := h.lt.2.2.2; omega)).trans h.k3⟩
theorem LB.own {W W' : World} {b b15 q A p B : Nat} {fr : Int} {row : Option Nat} (h : LB W b b15 q fr A p) (hB : b + 1 + 1 < B ∧ b15 < B) (hg : W.grownBy W' row) (hr : ∀ r, row = some r → B ≤ r ∧ ∃ o : Obj, W.heap[r]? = some o ∧ o.isCells = false) : LB W' b b15 q fr A p :=
  ⟨own_blk (by omega) h.k0 hg hr, own_blk (by omega) h.k1 hg hr, own_blk (by omega) h.k2 hg hr, own_blk (by omega) h.k3 hg hr⟩
theorem LB.put {W : World} {b b15 q A p : Nat} {fr : Int} (h : LB W b b15 q fr A p) (hne : b15 ≠ b + 1 + 1) (p' : Nat) : LB (W.setCell ⟨b + 1 + 1, 0, none⟩ (.int .i64 (p' : Nat))) b b15 q fr A p' :=
  ⟨(Below.heap_setCell W ⟨b + 1 + 1, 0, none⟩ _ _ (by simp only; omega)).trans h.k0, (Below.heap_setCell W ⟨b + 1 + 1, 0, none⟩ _ _ (by simp only; omega)).trans h.k1, blk_set h.k2 0 _, (Below.heap_setCell W ⟨b + 1 + 1, 0, none⟩ _ _ hne).trans h.k3⟩
theorem LB.drewN {W : World} {b b15 q A p : Nat} {fr : Int} (h : LB W b b15 q fr A p) (m : Nat) : LB (W.drewN m) b b15 q fr A p := ⟨h.k0, h.k1, h.k2, h.k3⟩
theorem kpw_put {n0 b0 b1 b : Nat} (W : World) (h0 : n0 ≤ b) (h1 : b0 ≠ b) (h2 : b1 ≠ b) (u : Value) : KpW n0 b0 b1 W (W.setCell ⟨b, 0, none⟩ u) :=
  ⟨(Below.refl _ W).setCell (p := ⟨b, 0, none⟩) h0 u, Below.heap_setCell W ⟨b, 0, none⟩ _ _ h1, Below.heap_setCell W ⟨b, 0, none⟩ _ _ h2⟩
theorem keeps_of_below {W W' : World} (h : Below W.heap.size W W') : KeepsOthers W W' := ⟨h.size, fun k o hk _ => (h.block k (lt_of_heap hk)).trans hk⟩
set_option maxRecDepth 100000 in
set_option maxHeartbeats 16000000 in
theorem dictWalks_walk (W : World) (a : Option Addr) (n c : Nat) (ls : List ByteArray) (hr : Rd W (.slice a n c) (ls.map Value.string)) (hll : ls.length ≤ 1048576) (from_ stop : Int) (hf : -9223372036854775808 ≤ from_ ∧ from_ ≤ 9223372036854775807) (EA : Nat → Addr) (hS : Sent W EA) :
    Calls Tryd.prog 7 #[.slice a n c, .int .i64 from_, .int .i64 stop] W fun e W' => e = .returned (.bool true) ∧ Below W.heap.size W W' := by
  obtain ⟨w0, hw0⟩ : ∃ w0, w0 = (W.alloc (.cells #[.int .i64 stop] 3)).alloc (.cells #[.bool false] 4) := ⟨_, rfl⟩
  have hb0 : Below W.heap.size W w0 := by rw [hw0]; exact ((Below.refl _ W).alloc (Nat.le_refl _) _).alloc (by simp) _
  have hz0 : w0.heap.size = W.heap.size + 1 + 1 := by rw [hw0]; simp
  have g5 : w0.heap[W.heap.size]? = some (.cells #[.int .i64 stop] 3 (0, 0)) := by rw [hw0]; exact (Below.heap_alloc _ _ _ (by simp)).trans (heap_alloc_new W _)
  have g6 : w0.heap[W.heap.size + 1]? = some (.cells #[.bool false] 4 (0, 0)) := by rw [hw0]; have := heap_alloc_new (W.alloc (.cells #[.int .i64 stop] 3)) (.cells #[.bool false] 4); rwa [World.size_alloc] at this
  have C1 := fixed_any w0 EA (hS.below hb0)
  have HS := Lib.hid hS
  have HR := Lib.hid hr
  have HB0 := Lib.hid hb0
  have G5 := Lib.hid g5
  have G6 := Lib.hid g6
  have HW0 := Lib.hid hw0
  clear hS hr hb0 g5 g6
  rw [hw0] at C1
  clear hw0
  refine (callsIn_wide (n := 5)).1 ?_
  refine callsIn_of_wp_marks Tryd.func7 rfl trivial ?_ rfl
  simp only [Tryd.ntmps7, List.size_toArray, List.length_cons, List.length_nil, Nat.reduceAdd, Nat.reduceSub, Array.replicate_succ, Array.replicate_zero, List.push_toArray, List.append_toArray, List.nil_append, List.cons_append]
  gi_wp2_with (refine ⟨trivial, ?_⟩; gi_at_call 10; refine (callsIn_wide.2 C1).mono ?_; rintro e w1 ⟨rfl, hb1⟩)
  rw [← HW0.out] at hb1
  clear C1
  have hb01 := HB0.out.trans (hb1.mono HB0.out.size)
  have hwb : WB (w1.alloc (.cells #[.slice none 0 0] 30)) W.heap.size (W.heap.size + 1) w1.heap.size stop (.slice none 0 0) :=
    ⟨(Below.heap_alloc _ _ _ (by have := hb1.size; omega)).trans ((hb1.block _ (by omega)).trans G5.out), (Below.heap_alloc _ _ _ (by have := hb1.size; omega)).trans ((hb1.block _ (by omega)).trans G6.out), heap_alloc_new w1 _⟩
  have hbA := hb01.alloc hb01.size (.cells #[.slice none 0 0] 30)
  have C2 := sorted_any (w1.alloc (.cells #[.slice none 0 0] 30)) a n c ls (HR.out.below hbA (Nat.le_refl _)) (by omega)
  have hb5 : W.heap.size + 1 < w1.heap.size := by have := hb1.size; omega
  have HWB := Lib.hid hwb
  have HBA := Lib.hid hbA
  clear hb1 hb01 hwb hbA
  gi_wp2_with (refine ⟨trivial, ?_⟩; gi_at_call 25; refine (callsIn_wide.2 (C2.mono fun e w' (h : SortedPost _ _ e w') => (show ∃ A C ks, e = .returned (.slice A (List.length ks) C) ∧ Own w' (w1.alloc (.cells #[.slice none 0 0] 30)).heap.size 9 (.slice A (List.length ks) C) (keysV ks) ∧ (∀ k ∈ ks, okKey k) ∧ ks.Pairwise (fun x y => Go.Op.bytesLess x y = true) ∧ List.length ks ≤ ls.length ∧ Below (w1.alloc (.cells #[.slice none 0 0] 30)).heap.size (w1.alloc (.cells #[.slice none 0 0] 30)) w' from by obtain ⟨v, ks, he, ho, h1, h2, h3, h4⟩ := h; obtain ⟨A, C, rfl⟩ := own_slice ho; rw [keysV_length] at he ho; exact ⟨A, C, ks, he, ho, h1, h2, h3, h4⟩))).mono ?_; rintro e w2 ⟨A2, C2', ks, rfl, ho, hok, hpw, hkl, hb2⟩)
  clear C2
  have hwb2 := HWB.out.below hb2 (Nat.le_refl _)
  have hbA2 := HBA.out.trans (hb2.mono HBA.out.size)
  have ho2 := own_base ho (base' := w1.heap.size) (by simp)
  have HOK := Lib.hid hok
  have HPW := Lib.hid hpw
  have HWB2 := Lib.hid hwb2
  have HBA2 := Lib.hid hbA2
  have HO2 := Lib.hid ho2
  have h17 : w1.heap.size < w2.heap.size := hwb2.lt.2.2
  clear ho hok hpw hb2 hwb2 hbA2 ho2 HWB HBA
  gi_loopw [25] (fun s25 wr => ∃ (i : Nat) (A8 : Option Addr) (C8 : Nat), s25 = .int .i64 i ∧ i ≤ ks.length ∧ RowE wr w1.heap.size (.slice A8 i C8) (wE (ks.take i)) ∧ WB wr W.heap.size (W.heap.size + 1) w1.heap.size stop (.slice A8 i C8) ∧ Own wr w1.heap.size 9 (.slice A2 ks.length C2') (keysV ks) ∧ Below W.heap.size W wr) (fun s25 _ => ks.length - (intOf s25).toNat)
  case atStart => exact ⟨0, none, 0, rfl, Nat.zero_le _, rowE_nil _ _, HWB2.out, HO2.out, HBA2.out⟩
  case round =>
    clear HWB2 HO2 HBA2
    obtain ⟨i, A8, C8, rfl, hi, hrow, hwb, ho, hb⟩ := hrel
    by_cases hlt : i < ks.length
    · obtain ⟨g, rfl⟩ := ho.someAt (by omega)
      have hx := ho.get (keysV_get (l := ks) (j := i) hlt)
      have htk : wE (ks.take (i + 1)) = wE (ks.take i) ++ [⟨strOf ks[i], (i : Int), ((2 * i : Nat) : Int), ((3 * i : Nat) : Int), 1⟩] := entsF_take _ _ _ _ ks i hlt
      obtain ⟨kx, hkx⟩ : ∃ kx, strOf ks[i] = kx := ⟨_, rfl⟩
      rw [hkx] at hx htk
      have hl8 : (wE (ks.take i)).length ≤ 1000000000 := by unfold wE; rw [entsF_length, List.length_take]; omega
      have hl9 : (wE (ks.take i)).length = i := by unfold wE; rw [entsF_length, List.length_take]; omega
      have hl10 : (wE (ks.take (i + 1))).length = i + 1 := by unfold wE; rw [entsF_length, List.length_take]; omega
      have hz : w1.heap.size ≤ wr.heap.size := Nat.le_of_lt hwb.lt.2.2
      have j1 : (i : Int) < (ks.length : Int) := by omega
      obtain ⟨m2, hm2⟩ : ∃ m, 2 * i = m := ⟨_, rfl⟩
      obtain ⟨m3, hm3⟩ : ∃ m, 3 * i = m := ⟨_, rfl⟩
      rw [hm2, hm3] at htk
      have q2 : IntKind.i64.wrap (2 * (i : Int)) = (m2 : Int) := by rw [IntKind.wrap_i64]; omega
      have q3 : IntKind.i64.wrap (3 * (i : Int)) = (m3 : Int) := by rw [IntKind.wrap_i64]; omega
      have c7 : wr.cell? ⟨w1.heap.size, 0, none⟩ = some (.slice A8 i C8) := blk_cell hwb.c7 0
      have HTK := Lib.hid htk
      have HROW := Lib.hid hrow
      have HB := Lib.hid hb
      have HL8 := Lib.hid hl8
      have HL9 := Lib.hid hl9
      have HL10 := Lib.hid hl10
      have HWB := Lib.hid hwb
      have HO := Lib.hid ho
      have HM := Lib.hid (And.intro hm2 hm3)
      clear htk hkx hrow ho hb hl8 hm2 hm3 hwb hl9 hl10
      gi_wp2_with (gi_at_builtin; with_reducible refine apEIn HROW.out HL8.out hz rfl _ _ rfl rfl rfl ?_)
      intro v9 w9 hrow9 hg9
      have hwb9 := HWB.out.grown hg9 (HROW.out.ne_type HWB.out.c5 (by decide)) (HROW.out.ne_type HWB.out.c6 (by decide)) (HROW.out.ne_type HWB.out.c7 (by decide))
      have hb9 := HB.out.grown hg9 HB.out.size (fun k hk => by have := (HROW.out.lt k hk).1; omega)
      have he9 : Eff (fun k => (Value.slice A8 i C8).ownBlock = some k) wr w9 := (Eff.refl _ _).grown hg9 (fun i hi _ => hi)
      have ho9 : Own w9 w1.heap.size 9 (.slice (some ⟨g, 0, none⟩) ks.length C2') (keysV ks) := HO.out.eff he9 (fun k hk hF => by
        rcases HROW.out.2 with ⟨hv, _⟩ | ⟨g', cap, cur, hv, _, hgg, _⟩
        · rw [hv] at hF; simp [Value.ownBlock] at hF
        · have : g' = k := by rw [hv] at hF; simpa [Value.ownBlock] using hF
          subst this
          exact HO.out.ne_type hgg (by decide) hk)
      rw [← HTK.out] at hrow9
      obtain ⟨A9, C9, rfl⟩ := hrow9.sl
      rw [HL10.out] at hrow9
      rw [HL10.out]
      have c9 : w9.cell? ⟨w1.heap.size, 0, none⟩ = some (.slice A8 i C8) := blk_cell hwb9.c7 0
      have z9 : w9.frozen? ⟨w1.heap.size, 0, none⟩ = false := blk_frozen hwb9.c7 0
      have hwb10 := hwb9.put7 (l' := .slice A9 (i + 1) C9) (by omega) (by omega)
      have hrow10 : RowE (w9.setCell ⟨w1.heap.size, 0, none⟩ (.slice A9 (i + 1) C9)) w1.heap.size (.slice A9 (i + 1) C9) (wE (ks.take (i + 1))) := hrow9.eff (F := fun k => k = w1.heap.size) ((Eff.refl (fun k => k = w1.heap.size) w9).setCell (p := ⟨w1.heap.size, 0, none⟩) (fun _ => rfl) _) (fun k hk e => hrow9.ne_type hwb9.c7 (by decide) (e ▸ hk))
      have ho10 := ho9.setOther (p := ⟨w1.heap.size, 0, none⟩) (ho9.ne_type hwb9.c7 (by decide)) (.slice A9 (i + 1) C9)
      have hb10 := hb9.setCell (p := ⟨w1.heap.size, 0, none⟩) (by simp only; omega) (.slice A9 (i + 1) C9)
      have HROW10 := Lib.hid hrow10
      have HWB10 := Lib.hid hwb10
      have HO10 := Lib.hid ho10
      have HB10 := Lib.hid hb10
      clear hrow9 hg9 hb9 he9 ho9 hwb9 hrow10 hwb10 ho10 hb10 q2 q3 c7 hx
      gi_wp2
      go_roundw
      case rel => exact ⟨i + 1, A9, C9, by go_num, by omega, HROW10.out, HWB10.out, HO10.out, HB10.out⟩
      case measure => simp [intOf]; omega
    · obtain rfl : i = ks.length := by omega
      have j1 : ¬ ((ks.length : Int) < (ks.length : Int)) := by omega
      rw [List.take_length] at hrow
      have hel : (wE ks).length = ks.length := entsF_length _ _ _ _ ks
      have hoke : ∀ e ∈ wE ks, entOk e = true := entsF_ok HOK.out (fun i hi => ⟨decide_eq_true (by omega), decide_eq_true (by omega), decide_eq_true (by omega), decide_eq_true (by omega)⟩)
      have hris : rising none (wE ks) := entsF_rising HPW.out
      obtain ⟨es, hes⟩ : ∃ es, wE ks = es := ⟨_, rfl⟩
      rw [hes] at hrow hel hoke hris
      have him := image_most (l := es) (by omega) hoke
      obtain ⟨nn, hnn⟩ : ∃ nn, ks.length = nn := ⟨_, rfl⟩
      rw [hnn] at hrow hwb hel
      have C3 := (build_any wr A8 nn C8 es hrow.rd (by
        rcases hrow.2 with ⟨hv, _⟩ | ⟨g, cap, cur, hv, _, _, hn, _⟩
        · injection hv with _ h2 h3; omega
        · injection hv with _ h2 h3; omega) (by omega) (fun _ => him) EA (HS.out.below hb).derr.r).mono (fun e w' h => (show ∃ A N C, e = .returned (.tuple #[.slice A N C, .nilIface]) ∧ Own w' wr.heap.size 5 (.slice A N C) (bytesV (imageB es)) ∧ Below wr.heap.size wr w' from by obtain ⟨v', he, ho, hb⟩ := h.1 hoke hris; obtain ⟨A, N, C, rfl⟩ := own_sl ho; exact ⟨A, N, C, he, ho, hb⟩))
      have hpp := parse_put hoke hris (by omega)
      have c7 : wr.cell? ⟨w1.heap.size, 0, none⟩ = some (.slice A8 nn C8) := blk_cell hwb.c7 0
      have HPP := Lib.hid hpp
      have HIM := Lib.hid him
      have HRIS := Lib.hid hris
      have HROW := Lib.hid hrow
      have HB := Lib.hid hb
      have HEL := Lib.hid hel
      have HWB := Lib.hid hwb
      clear hoke hris hrow hb hes hpp him hel HOK HPW hi ho hwb hlt
      gi_wp2_with (refine ⟨trivial, ?_⟩; gi_at_call 14; refine (callsIn_wide.2 C3).mono ?_; rintro e w3 ⟨A3, N3, X3, rfl, ho3, hb3⟩)
      clear C3 c7
      have hb03 := HB.out.trans (hb3.mono HB.out.size)
      have C4 := (open_any w3 A3 N3 X3 (imageB es) ho3.rd HIM.out EA (HS.out.below hb03).derr).mono (fun e w' h => (show ∃ q v, e = .returned (.tuple #[.pointer (some ⟨q, 0, none⟩), .nilIface]) ∧ DictAt w' w3.heap.size q v es ∧ Below w3.heap.size w3 w' from h.1 es HPP.out))
      have hrow3 := HROW.out.below hb3 (Nat.le_refl _)
      have hwb3 := HWB.out.below hb3 (Nat.le_refl _)
      have HB3 := Lib.hid hb03
      have HROW3 := Lib.hid hrow3
      have HWB3 := Lib.hid hwb3
      clear ho3 hb3 hb03 hrow3 hwb3 HB HROW HWB
      gi_wp2_with (refine ⟨trivial, ?_⟩; gi_at_call 11; refine (callsIn_wide.2 C4).mono ?_; rintro e w4 ⟨q, v, rfl, hd4, hb4⟩)
      clear C4
      have hb04 := HB3.out.trans (hb4.mono HB3.out.size)
      have hd5 := hd4.below ((Below.refl _ w4).alloc (Nat.le_refl _) (.cells #[.pointer (some ⟨q, 0, none⟩)] 24)) (Nat.le_refl _)
      have hrow5 := (HROW3.out.below hb4 (Nat.le_refl _)).below ((Below.refl _ w4).alloc (Nat.le_refl _) (.cells #[.pointer (some ⟨q, 0, none⟩)] 24)) (Nat.le_refl _)
      have hwb5 := (HWB3.out.below hb4 (Nat.le_refl _)).below ((Below.refl _ w4).alloc (Nat.le_refl _) (.cells #[.pointer (some ⟨q, 0, none⟩)] 24)) (Nat.le_refl _)
      have g12 := heap_alloc_new w4 (.cells #[.pointer (some ⟨q, 0, none⟩)] 24)
      have hb05 := hb04.alloc hb04.size (.cells #[.pointer (some ⟨q, 0, none⟩)] 24)
      have hz5 : w4.heap.size + 1 = (w4.alloc (.cells #[.pointer (some ⟨q, 0, none⟩)] 24)).heap.size := by simp
      generalize w4.alloc (.cells #[.pointer (some ⟨q, 0, none⟩)] 24) = w5 at hd5 hrow5 hwb5 g12 hb05 hz5 ⊢
      generalize w4.heap.size = b12 at g12 hz5 ⊢
      have hb12 : b12 < w5.heap.size := by omega
      have HD5 := Lib.hid hd5
      have HROW5 := Lib.hid hrow5
      have HWB5 := Lib.hid hwb5
      have G12 := Lib.hid g12
      have HB5 := Lib.hid hb05
      clear hd4 hb4 hb04 hd5 hrow5 hwb5 g12 hb05 hz5 HB3 HROW3 HWB3
      have hfn := walkf_nil #[.pointer (some ⟨w5.heap.size + 1, 0, none⟩), .pointer (some ⟨w5.heap.size, 0, none⟩)]
      gi_upto_if 66 with (refine ⟨trivial, ?_⟩; gi_at_call 26; refine (callsIn_wide.2 (walk_any _ q from_)).mono ?_; rintro e w' ⟨rfl, rfl⟩)
      obtain ⟨W3, hW3⟩ : ∃ W3, W3 = ((w5.alloc (.cells #[.pointer (some ⟨q, 0, none⟩)] 24)).alloc (.cells #[.int .i64 from_] 3)).alloc (.cells #[.int .i64 from_] 3) := ⟨_, rfl⟩
      rw [← hW3]
      have hz3 : W3.heap.size = w5.heap.size + 1 + 1 + 1 := by rw [hW3]; simp
      have hB3 : Below w5.heap.size w5 W3 := by rw [hW3]; exact (((Below.refl _ w5).alloc (Nat.le_refl _) _).alloc (by simp) _).alloc (by first | (simp; done) | (simp; omega)) _
      have k0 : W3.heap[w5.heap.size]? = some (.cells #[.pointer (some ⟨q, 0, none⟩)] 24 (0, 0)) := by
        rw [hW3]; exact (Below.heap_alloc _ _ _ (by first | (simp; done) | (simp; omega))).trans ((Below.heap_alloc _ _ _ (by simp)).trans (heap_alloc_new w5 _))
      have k1 : W3.heap[w5.heap.size + 1]? = some (.cells #[.int .i64 from_] 3 (0, 0)) := by
        rw [hW3]; exact (Below.heap_alloc _ _ _ (by simp)).trans (by have := heap_alloc_new (w5.alloc (.cells #[.pointer (some ⟨q, 0, none⟩)] 24)) (.cells #[.int .i64 from_] 3); rwa [World.size_alloc] at this)
      have k2 : W3.heap[w5.heap.size + 1 + 1]? = some (.cells #[.int .i64 from_] 3 (0, 0)) := by
        rw [hW3]; have := heap_alloc_new ((w5.alloc (.cells #[.pointer (some ⟨q, 0, none⟩)] 24)).alloc (.cells #[.int .i64 from_] 3)) (.cells #[.int .i64 from_] 3); rwa [World.size_alloc, World.size_alloc] at this
      clear hW3
      gi_cut [66] from 144 (fun s66 wx => Below w5.heap.size w5 wx ∧ wx.heap.size = w5.heap.size + 1 + 1 + 1 ∧ wx.heap[w5.heap.size]? = some (.cells #[.pointer (some ⟨q, 0, none⟩)] 24 (0, 0)) ∧ wx.heap[w5.heap.size + 1]? = some (.cells #[.int .i64 from_] 3 (0, 0)) ∧ wx.heap[w5.heap.size + 1 + 1]? = some (.cells #[.int .i64 (from_.toNat : Nat)] 3 (0, 0)))
      case first =>
        by_cases h0 : from_ < 0
        · have t0 : decide (from_ < 0) = true := decide_eq_true h0
          have c2 : W3.cell? ⟨w5.heap.size + 1 + 1, 0, none⟩ = some (.int .i64 from_) := blk_cell k2 0
          have z2 : W3.frozen? ⟨w5.heap.size + 1 + 1, 0, none⟩ = false := blk_frozen k2 0
          have hA : from_.toNat = 0 := by omega
          have HB3 := Lib.hid hB3
          have K0 := Lib.hid k0
          have K1 := Lib.hid k1
          have K2 := Lib.hid k2
          have HA := Lib.hid hA
          have HZ3 := Lib.hid hz3
          clear hB3 k0 k1 k2 hA hz3
          gi_wp2
          all_goals gi_meet
          all_goals exact ⟨HB3.out.setCell (p := ⟨w5.heap.size + 1 + 1, 0, none⟩) (by simp only; omega) _, by rw [← HZ3.out]; simp [World.setCell], (Below.heap_setCell _ ⟨w5.heap.size + 1 + 1, 0, none⟩ _ _ (by simp only; omega)).trans K0.out, (Below.heap_setCell _ ⟨w5.heap.size + 1 + 1, 0, none⟩ _ _ (by simp only; omega)).trans K1.out, by rw [HA.out]; exact blk_set K2.out 0 _⟩
        · have t0 : decide (from_ < 0) = false := decide_eq_false h0
          have hA : (from_.toNat : Int) = from_ := by omega
          have HB3 := Lib.hid hB3
          have K0 := Lib.hid k0
          have K1 := Lib.hid k1
          have K2 := Lib.hid k2
          have HA := Lib.hid hA
          have HZ3 := Lib.hid hz3
          clear hB3 k0 k1 k2 hA hz3
          gi_wp2
          all_goals gi_meet
          all_goals exact ⟨HB3.out, HZ3.out, K0.out, K1.out, by rw [HA.out]; exact K2.out⟩
      case rest =>
      obtain ⟨hBc, hzc, k0c, k1c, k2c⟩ := hcut
      clear hz3 hB3 k0 k1 k2 W3
      obtain ⟨wd, rfl⟩ : ∃ wd : World, wd = wc := ⟨_, rfl⟩
      have hc2 : wd.cell? ⟨w5.heap.size + 1 + 1, 0, none⟩ = some (.int .i64 (from_.toNat : Nat)) := blk_cell k2c 0
      obtain ⟨A, hA⟩ : ∃ A, from_.toNat = A := ⟨_, rfl⟩
      rw [hA] at k2c hc2
      have hA2 : A ≤ 9223372036854775807 := by omega
      have hBW := hBc.alloc hBc.size (.cells #[.int .i64 (A : Nat)] 3)
      have hzW : (wd.alloc (.cells #[.int .i64 (A : Nat)] 3)).heap.size = w5.heap.size + 1 + 1 + 1 + 1 := by simp [hzc]
      have g0 := (Below.heap_alloc wd (.cells #[.int .i64 (A : Nat)] 3) _ (lt_of_heap k0c)).trans k0c
      have g1 := (Below.heap_alloc wd (.cells #[.int .i64 (A : Nat)] 3) _ (lt_of_heap k1c)).trans k1c
      have g2 := (Below.heap_alloc wd (.cells #[.int .i64 (A : Nat)] 3) _ (lt_of_heap k2c)).trans k2c
      have g3 := heap_alloc_new wd (.cells #[.int .i64 (A : Nat)] 3)
      rw [hzc] at g3
      have hLB : LB (wd.alloc (.cells #[.int .i64 (A : Nat)] 3)) w5.heap.size (w5.heap.size + 1 + 1 + 1) q from_ A A := ⟨g0, g1, g2, g3⟩
      have hst := walk_stops Fence.wide 4 trivial rfl (by omega) w5 _ q v es HD5.out (by rw [HEL.out]; omega) w5.heap.size (w5.heap.size + 1) from_ hf.2 _ hBW g0 g1
      rw [hA, HEL.out] at hst
      have HBW := Lib.hid hBW
      have HZW := Lib.hid hzW
      have HLB := Lib.hid hLB
      have HST := Lib.hid hst
      clear hBc k0c k1c k2c hBW hzW g0 g1 g2 g3 hLB hst
      gi_wp2
      have HZD := Lib.hid hzc
      clear hzc
      obtain ⟨W0, hW0⟩ : ∃ W0, W0 = wd.alloc (.cells #[.int .i64 (A : Nat)] 3) := ⟨_, rfl⟩
      rw [← hW0] at HBW HZW HLB HST ⊢
      clear hW0
      have hzW := HZW.out
      have h5a : W.heap.size < w5.heap.size := HWB5.out.lt.1
      have h5b : W.heap.size + 1 < w5.heap.size := HWB5.out.lt.2.1
      have h5c : w1.heap.size < w5.heap.size := HWB5.out.lt.2.2
      refine wpIn_rangeFunc_ownH (F := Fence.wide) (n := 5) rfl (by omega) (gf := 53) (lb := #[.pointer (some ⟨w5.heap.size + 1, 0, none⟩), .pointer (some ⟨w5.heap.size, 0, none⟩)]) rfl trivial (enters_of Tryd.func53 (by kernel_rfl) rfl)
        HST.out (fun h k => KpW.trans h k) (KpW.putObj (by omega) (by omega) (by omega)) (Below.refl _ _) (fun _ => rfl)
        (fun pre W1 => (pre = walkL es A pre.length ∧ LB W1 w5.heap.size (w5.heap.size + 1 + 1 + 1) q from_ A (A + pre.length) ∧ W0.heap.size ≤ W1.heap.size) ∧ Below w5.heap.size w5 W1)
        (fun cd pre W1 => (cd = .ret ∧ pre ≠ walkL es A pre.length) ∨ (cd = .exit 2 ∧ pre = walkL es A pre.length ∧ (pre.length : Int) = stop ∧ LB W1 w5.heap.size (w5.heap.size + 1 + 1 + 1) q from_ A (A + pre.length) ∧ W0.heap.size ≤ W1.heap.size ∧ Below w5.heap.size w5 W1))
        (fun s A1 B1 row hs hg hr => ⟨⟨hs.1.1, hs.1.2.1.own (by omega) hg hr, Nat.le_trans hs.1.2.2 hg.size⟩, (ownFrom_below (β := Unit) (Nat.le_refl _) (by omega)) () A1 B1 row hs.2 hg hr⟩)
        (fun cd s A1 B1 row hs hg hr => hs.elim .inl (fun h => .inr ⟨h.1, h.2.1, h.2.2.1, h.2.2.2.1.own (by omega) hg hr, Nat.le_trans h.2.2.2.2.1 hg.size, (ownFrom_below (β := Unit) (Nat.le_refl _) (by omega)) () A1 B1 row h.2.2.2.2.2 hg hr⟩))
        ⟨⟨rfl, HLB.out, Nat.le_refl _⟩, HBW.out⟩
        (fun x a' W1 => ∃ Bx, a' = { tmps := #[.slice a n c, .int .i64 from_, .int .i64 stop, undef, undef, .pointer (some ⟨W.heap.size, 0, none⟩), .pointer (some ⟨W.heap.size + 1, 0, none⟩), .pointer (some ⟨w1.heap.size, 0, none⟩), u8, u9, .slice A3 N3 X3, .nilIface, .pointer (some ⟨b12, 0, none⟩), .func (.func 53) #[] #[.pointer (some ⟨w5.heap.size + 1, 0, none⟩), .pointer (some ⟨w5.heap.size, 0, none⟩)], .pointer (some ⟨w5.heap.size + 1 + 1, 0, none⟩), .pointer (some ⟨w5.heap.size + 1 + 1 + 1, 0, none⟩), .int .i64 (x.1 : Nat), .pointer (some ⟨Bx, 0, none⟩), undef, undef, .bool true, .bool false, .slice a n c, .slice A2 nn C2', .int .i64 nn, .int .i64 nn, .bool false, u27, u28, u29, u30, u31, u32, u33, u34, u35, u36, u37, u38, u39, u40, .tuple #[.slice A3 N3 X3, .nilIface], .slice A8 nn C8, .tuple #[.slice A3 N3 X3, .nilIface], .slice A3 N3 X3, .nilIface, .nilIface, .bool false, .tuple #[.pointer (some ⟨q, 0, none⟩), .nilIface], .slice A3 N3 X3, .tuple #[.pointer (some ⟨q, 0, none⟩), .nilIface], .pointer (some ⟨q, 0, none⟩), .nilIface, .nilIface, .bool false, .bool false, .pointer (some ⟨q, 0, none⟩), .bool false, .bool false, .pointer (some ⟨q, 0, none⟩), .int .i64 from_, .func (.func 53) #[] #[.pointer (some ⟨w5.heap.size + 1, 0, none⟩), .pointer (some ⟨w5.heap.size, 0, none⟩)], .func (.func 53) #[] #[.pointer (some ⟨w5.heap.size + 1, 0, none⟩), .pointer (some ⟨w5.heap.size, 0, none⟩)], .bool false, .int .i64 from_, .int .i64 from_, u66, .int .i64 (A : Nat), .func (.func 53) #[] #[.pointer (some ⟨w5.heap.size + 1, 0, none⟩), .pointer (some ⟨w5.heap.size, 0, none⟩)], .int .i64 (x.1 : Nat), .agg #[.string x.2.k, .int .i64 x.2.d, .int .i64 x.2.t, .int .i64 x.2.a, .int .i64 x.2.s], undef, undef, undef, undef, undef, undef, undef, undef, undef, undef, undef, undef, undef, undef, undef, undef, undef, undef, undef, undef, undef, undef, undef, undef, undef, undef, undef, undef, undef, undef, undef, undef, undef, undef, undef, undef, undef, undef, undef, undef, undef, undef, undef, undef, undef, undef, undef, undef, undef, undef, undef, undef, undef, undef, undef, undef, undef, undef, undef, undef, undef, undef, undef, undef, undef, undef, undef, undef, undef, undef, undef, undef, undef], defers := [] } ∧ W1.heap[Bx]? = some (.cells #[.string x.2.k, .int .i64 x.2.d, .int .i64 x.2.t, .int .i64 x.2.a, .int .i64 x.2.s] 32 (0, 0)))
        (fun x a' s A1 B1 row hs hg hr => by obtain ⟨Bx, e, hb⟩ := hs; exact ⟨Bx, e, own_cells hb hg hr⟩) ?assign ?body ?done ?stop
      case assign =>
        intro l pre x W1 K hI hK
        obtain ⟨⟨hpre, hlb, hzz⟩, hB⟩ := hI
        have hzW1 := hB.size
        have HKK := Lib.hid hK
        have HPRE := Lib.hid hpre
        have HLB1 := Lib.hid hlb
        clear hK hpre hlb
        unfold encE
        gi_wp2
        exact HKK.out _ _ ((KeepsOthers.alloc _ _).from _) (KpW.of_below ((Below.refl _ W1).alloc (Nat.le_refl _) _) hB.size (by omega) (by omega)) ⟨⟨HPRE.out, HLB1.out.below ((Below.refl _ W1).alloc (Nat.le_refl _) _) (Nat.le_refl _), Nat.le_trans hzz (by simp)⟩, hB.alloc hB.size _⟩ ⟨W1.heap.size, rfl, heap_alloc_new W1 _⟩
      case body =>
        rintro l pre ⟨xk, ⟨xs, xd, xt, xa, xz⟩⟩ a' W1 hle hr ⟨⟨hpre, hlb, hzz⟩, hB⟩ ⟨Bx, rfl, hbx⟩ hlt
        have hrow1 := HROW5.out.below hB (Nat.le_refl _)
        have hel := HEL.out
        obtain ⟨g, rfl, _, _, _, hat⟩ := hrow1.head (by omega)
        have hrd1 := hrow1.rd
        obtain ⟨k, hkp⟩ : ∃ k, pre.length = k := ⟨_, rfl⟩
        obtain ⟨p, hp⟩ : ∃ p, A + k = p := ⟨_, rfl⟩
        have hpl : p < es.length := by omega
        have hen := hat p hpl
        have hee := entD_eq es p hpl
        obtain ⟨en, hene⟩ : ∃ en, es[p] = en := ⟨_, rfl⟩
        rw [hene] at hen hee
        obtain ⟨ek, ed, et, ea, es'⟩ := en
        obtain ⟨f0, f1, f2, f3, f4⟩ := hen
        simp only at f0 f1 f2 f3 f4
        rw [hkp, hp] at hlb
        have hwb1 := HWB5.out.below hB (Nat.le_refl _)
        have g121 := (hB.block b12 hb12).trans G12.out
        have c7 := blk_cell hwb1.c7 0
        have c5 := blk_cell hwb1.c5 0
        have c6 := blk_cell hwb1.c6 0
        have z6 := blk_frozen hwb1.c6 0
        have c12 := blk_cell g121 0
        have c14 := blk_cell hlb.k2 0
        have c15 := blk_cell hlb.k3 0
        have z14 := blk_frozen hlb.k2 0
        have d0 : W1.cell? ⟨Bx, 0, none⟩ = some (.string xs) := blk_cell hbx 0
        have d1 : W1.cell? ⟨Bx, 1, none⟩ = some (.int .i64 xd) := blk_cell hbx 1
        have d2 : W1.cell? ⟨Bx, 2, none⟩ = some (.int .i64 xt) := blk_cell hbx 2
        have d3 : W1.cell? ⟨Bx, 3, none⟩ = some (.int .i64 xa) := blk_cell hbx 3
        have d4 : W1.cell? ⟨Bx, 4, none⟩ = some (.int .i64 xz) := blk_cell hbx 4
        have tl : decide (nn ≤ p) = false := decide_eq_false (by omega)
        have i1 : (p : Int) < (nn : Int) := by omega
        have hgd := guard_ent
        have hwsu := walkL_succ es A pre.length
        rw [hkp, hp, hee] at hwsu
        rw [hkp] at hpre
        have hlen : ∀ y, (pre ++ [y]).length = k + 1 := fun y => by simp [hkp]
        have hKF : ∀ (k : Nat) (u : Value) (m : Nat), KeepsFrom W0.heap.size W1 ((W1.drewN m).setCell ⟨k, 0, none⟩ u) := fun k u m => ((show KeepsOthers W1 (W1.drewN m) from ⟨Nat.le_refl _, fun _ _ h _ => h⟩).trans (KeepsOthers.setCell (W1.drewN m) _ _)).from _
        have HW := Lib.hid hwsu
        have HPRE := Lib.hid hpre
        have HP := Lib.hid hp
        have HB := Lib.hid hB
        have HLEN := Lib.hid hlen
        have HKF := Lib.hid hKF
        have HL1 := Lib.hid hlb
        have HWB1 := Lib.hid hwb1
        have HRD1 := Lib.hid hrd1
        have G121 := Lib.hid g121
        have hlk : A + k < nn := by omega
        clear hwsu hpre hat hene hlb hbx hlen hKF hwb1 hrd1 hrow1 g121 hB hr hkp hp
        by_cases hk : xk = p
        · subst hk
          have t1 : (((xk : Nat) : Int) != ((xk : Nat) : Int)) = false := by simp
          have heq := fun w => neq_ent w ⟨xs, xd, xt, xa, xz⟩ ⟨ek, ed, et, ea, es'⟩
          simp only at heq
          cases hq : entEq ⟨xs, xd, xt, xa, xz⟩ ⟨ek, ed, et, ea, es'⟩ with
          | true =>
            rw [hq, Bool.not_true] at heq
            have hx := (entEq_iff _ _).1 hq
            have HX := Lib.hid hx
            clear hq hx
            gi_wp2
            refine region_quiet_r (by kernel_rfl) (by kernel_rfl) (by kernel_rfl) ?_
            repeat (quiet_step_in (fail))
            refine wpQuietIn_nil ?_
            intro _ hw'
            obtain ⟨nq, hw''⟩ := hw'
            subst hw''
            clear heq d0 d1 d2 d3 d4 f0 f1 f2 f3 f4
            gi_upto_region 27 with fail
            gi_cut [98] from 144 (fun s98 wx => s98 = .bool false ∧ Below W1.heap.size W1 wx)
            case first =>
              by_cases hp1 : xk = A + 1
              · have te : (((xk : Nat) : Int) == ((A : Nat) : Int) + 1) = true := by simp; omega
                have C9X := walked_any (W1.drewN nq) _ q v es (HD5.out.below (below_drewN HB.out nq) (Nat.le_refl _)) (some ⟨g, 0, none⟩) nn C8 HRD1.out (by omega) (xk : Int) (by omega)
                have C9 := CallsIn.inRound l (callsIn_wide (n := 2).2 C9X)
                clear C9X hp1
                gi_wp2_with (refine ⟨trivial, ?_⟩; gi_at_call 20; with_reducible refine C9.mono ?_; rintro e w8 ⟨rfl, hb8⟩)
                all_goals gi_meet
                all_goals exact ⟨rfl, (below_drewN (Below.refl _ W1) nq).trans hb8⟩
              · have te : (((xk : Nat) : Int) == ((A : Nat) : Int) + 1) = false := by simp; omega
                clear hp1
                gi_wp2
                refine ⟨trivial, ?_⟩
                gi_wp2
                all_goals gi_meet
                all_goals exact ⟨rfl, below_drewN (Below.refl _ W1) nq⟩
            case rest =>
            obtain ⟨rfl, hbx⟩ := hcut
            have hlb9 := HL1.out.below hbx (Nat.le_refl _)
            have hwb9 := HWB1.out.below hbx (Nat.le_refl _)
            have hB9 := HB.out.trans (hbx.mono HB.out.size)
            clear c5 c6 c7 c12 c14 c15 z6 z14
            have c5 := blk_cell hwb9.c5 0
            have c14 := blk_cell hlb9.k2 0
            have c15 := blk_cell hlb9.k3 0
            have z14 := blk_frozen hlb9.k2 0
            obtain ⟨m, hm⟩ : ∃ m, k + 1 = m := ⟨_, rfl⟩
            have s1 : IntKind.i64.wrap ((xk : Int) + 1 - (A : Int)) = (m : Int) := by rw [IntKind.wrap_i64]; have := HP.out; omega
            have hput := hlb9.put (by omega) (xk + 1)
            rw [show ((xk + 1 : Nat) : Int) = (xk : Int) + 1 from rfl] at hput
            have hkf := ((keeps_of_below hbx).trans (KeepsOthers.setCell wc ⟨w5.heap.size + 1 + 1, 0, none⟩ (.int .i64 ((xk : Int) + 1)))).from W0.heap.size
            have hkp : KpW w5.heap.size w5.heap.size (w5.heap.size + 1) W1 (wc.setCell ⟨w5.heap.size + 1 + 1, 0, none⟩ (.int .i64 ((xk : Int) + 1))) := KpW.trans (KpW.of_below hbx (by omega) (by omega) (by omega)) (kpw_put wc (by omega) (by omega) (by omega) _)
            have hB10 := hB9.setCell (p := ⟨w5.heap.size + 1 + 1, 0, none⟩) (by simp only; omega) (.int .i64 ((xk : Int) + 1))
            have hz10 : W0.heap.size ≤ (wc.setCell ⟨w5.heap.size + 1 + 1, 0, none⟩ (.int .i64 ((xk : Int) + 1))).heap.size := by have := Nat.le_trans hzz hbx.size; simpa [World.setCell] using this
            have hpx : pre ++ [(xk, (⟨xs, xd, xt, xa, xz⟩ : EntV))] = walkL es A (k + 1) := by rw [HW.out, ← HPRE.out, HX.out]
            have hle := HLEN.out (xk, (⟨xs, xd, xt, xa, xz⟩ : EntV))
            have hap : A + (k + 1) = xk + 1 := by have := HP.out; omega
            have HPUT := Lib.hid hput
            have HKF9 := Lib.hid hkf
            have HKP9 := Lib.hid hkp
            have HB10 := Lib.hid hB10
            have HZ10 := Lib.hid hz10
            have HPX := Lib.hid hpx
            have HLE := Lib.hid hle
            have HAP := Lib.hid hap
            have HM := Lib.hid hm
            clear hlb9 hwb9 hB9 hput hkf hkp hB10 hz10 hpx hle hap hm
            by_cases hs : (m : Int) = stop
            · have te : ((m : Int) == stop) = true := by simp [hs]
              have HS9 := Lib.hid hs
              clear hs
              gi_wp2
              refine ⟨HKF9.out, .inr ⟨rfl, ?_, ?_, ?_, HZ10.out, HB10.out⟩⟩
              · rw [HLE.out]; exact HPX.out
              · rw [HLE.out, HM.out]; exact HS9.out
              · rw [HLE.out, HAP.out]; exact HPUT.out
            · have te : ((m : Int) == stop) = false := by simp [hs]
              clear hs
              gi_wp2
              refine ⟨HKF9.out, HKP9.out, ⟨?_, ?_, HZ10.out⟩, HB10.out⟩
              · rw [HLE.out]; exact HPX.out
              · rw [HLE.out, HAP.out]; exact HPUT.out
          | false =>
            rw [hq, Bool.not_false] at heq
            have hne : ¬ (⟨xs, xd, xt, xa, xz⟩ : EntV) = ⟨ek, ed, et, ea, es'⟩ := fun e => by rw [(entEq_iff _ _).2 e] at hq; cases hq
            have HNE := Lib.hid hne
            clear hq hne
            gi_wp2
            refine region_quiet_r (by kernel_rfl) (by kernel_rfl) (by kernel_rfl) ?_
            repeat (quiet_step_in (fail))
            refine wpQuietIn_nil ?_
            intro _ hw'
            obtain ⟨nq, hw''⟩ := hw'
            subst hw''
            gi_wp2
            refine ⟨HKF.out _ _ _, .inl ⟨rfl, fun e => ?_⟩⟩
            rw [HLEN.out, HW.out, ← HPRE.out] at e
            have e2 := List.append_cancel_left e
            simp only [List.cons.injEq, Prod.mk.injEq, and_true, true_and] at e2
            exact HNE.out e2
        · have t1 : (((xk : Nat) : Int) != ((p : Nat) : Int)) = true := by simp; omega
          have HK := Lib.hid hk
          clear hk
          gi_wp2
          refine region_quiet_r (by kernel_rfl) (by kernel_rfl) (by kernel_rfl) ?_
          repeat (quiet_step_in (fail))
          refine wpQuietIn_nil ?_
          intro _ hw'
          obtain ⟨nq, hw''⟩ := hw'
          subst hw''
          gi_wp2
          refine ⟨HKF.out _ _ _, .inl ⟨rfl, fun e => ?_⟩⟩
          rw [HLEN.out, HW.out, ← HPRE.out] at e
          have e2 := List.append_cancel_left e
          simp only [List.cons.injEq, Prod.mk.injEq, and_true] at e2
          exact HK.out e2.1
      case done =>
        rintro D ys W1 hDD rfl ⟨⟨hpre, hlb, hzz⟩, hB⟩ hK
        rw [walkL_length] at hlb
        obtain ⟨p, hp⟩ : ∃ p, A + (nn - A) = p := ⟨_, rfl⟩
        rw [hp] at hlb
        have hwbX := HWB5.out.below hB (Nat.le_refl _)
        have c7 := blk_cell hwbX.c7 0
        have c14 := blk_cell hlb.k2 0
        have tl : decide (p < nn) = false := decide_eq_false (by omega)
        have HLBX := Lib.hid hlb
        have HBX := Lib.hid hB
        have HKX := Lib.hid hK
        clear hpre hlb hB hK hwbX hp
        gi_upto_region 31 with fail
        gi_cut [116] from 144 (fun s116 wx => s116 = .bool false ∧ W1 = wx)
        case first =>
          gi_wp2
          all_goals gi_meet
          all_goals exact ⟨rfl, rfl⟩
        case rest =>
        obtain ⟨rfl, rfl⟩ := hcut
        have hlb := HLBX.out
        have hB := HBX.out
        have hK := HKX.out
        clear c7 c14 tl HLBX HBX HKX
        have hwb1 := HWB5.out.below hB (Nat.le_refl _)
        have g121 := (hB.block b12 hb12).trans G12.out
        have c14 := blk_cell hlb.k2 0
        have c15 := blk_cell hlb.k3 0
        have z14 := blk_frozen hlb.k2 0
        have hlb2 := hlb.put (by omega) A
        have hBW2 := hB.setCell (p := ⟨w5.heap.size + 1 + 1, 0, none⟩) (by simp only; omega) (.int .i64 (A : Nat))
        have hst2 := walk_stops Fence.wide 4 trivial rfl (by omega) w5 _ q v es HD5.out (by rw [HEL.out]; omega) w5.heap.size (w5.heap.size + 1) from_ hf.2 _ hBW2 hlb2.k0 hlb2.k1
        rw [hA, HEL.out] at hst2
        have hz2 : (W1.setCell ⟨w5.heap.size + 1 + 1, 0, none⟩ (.int .i64 (A : Nat))).heap.size = W1.heap.size := by simp [World.setCell]
        have hDne : D ≠ w5.heap.size + 1 + 1 := by omega
        have hK2 := (Below.heap_setCell W1 ⟨w5.heap.size + 1 + 1, 0, none⟩ (.int .i64 (A : Nat)) D hDne).trans hK
        have HLB2 := Lib.hid hlb2
        have HBW2 := Lib.hid hBW2
        have HST2 := Lib.hid hst2
        have HK2 := Lib.hid hK2
        have HZ2 := Lib.hid hz2
        clear hwb1 g121 hlb hB hK hlb2 hBW2 hst2 hz2 hK2
        gi_wp2
        clear c14 c15 z14
        obtain ⟨W2, hW2⟩ : ∃ W2, W2 = W1.setCell ⟨w5.heap.size + 1 + 1, 0, none⟩ (.int .i64 (A : Nat)) := ⟨_, rfl⟩
        rw [← hW2] at HLB2 HBW2 HST2 HK2 HZ2 ⊢
        clear hW2
        have hzW2 := HZ2.out
        have hD2 := lt_of_heap HK2.out
        have hl2 := HLB2.out.lt
        refine wpIn_rangeFunc_ownH (F := Fence.wide) (n := 5) rfl (by omega) (gf := 53) (lb := #[.pointer (some ⟨w5.heap.size + 1, 0, none⟩), .pointer (some ⟨w5.heap.size, 0, none⟩)]) rfl trivial (enters_of Tryd.func53 (by kernel_rfl) rfl)
          HST2.out (fun h k => KpW.trans h k) (KpW.putObj (by omega) (by omega) (by omega)) (Below.refl _ _) (fun _ => rfl)
          (fun pre W1 => (pre = walkL es A pre.length ∧ LB W1 w5.heap.size (w5.heap.size + 1 + 1 + 1) q from_ A (A + pre.length) ∧ W1.heap[D]? = some (.deferred (some [])) ∧ W2.heap.size ≤ W1.heap.size) ∧ Below w5.heap.size w5 W1)
          (fun cd pre W1 => (cd = .ret ∧ pre ≠ walkL es A pre.length))
          (fun s A1 B1 row hs hg hr => ⟨⟨hs.1.1, hs.1.2.1.own (by omega) hg hr, own_blk hD2 hs.1.2.2.1 hg hr, Nat.le_trans hs.1.2.2.2 hg.size⟩, (ownFrom_below (β := Unit) (Nat.le_refl _) (by omega)) () A1 B1 row hs.2 hg hr⟩)
          (fun cd s A1 B1 row hs hg hr => hs)
          ⟨⟨rfl, HLB2.out, HK2.out, Nat.le_refl _⟩, HBW2.out⟩
          (fun x a' W1 => ∃ Bx, a' = { tmps := #[.slice a n c, .int .i64 from_, .int .i64 stop, undef, undef, .pointer (some ⟨W.heap.size, 0, none⟩), .pointer (some ⟨W.heap.size + 1, 0, none⟩), .pointer (some ⟨w1.heap.size, 0, none⟩), u8, u9, .slice A3 N3 X3, .nilIface, .pointer (some ⟨b12, 0, none⟩), .func (.func 53) #[] #[.pointer (some ⟨w5.heap.size + 1, 0, none⟩), .pointer (some ⟨w5.heap.size, 0, none⟩)], .pointer (some ⟨w5.heap.size + 1 + 1, 0, none⟩), .pointer (some ⟨w5.heap.size + 1 + 1 + 1, 0, none⟩), undef, undef, .int .i64 (x.1 : Nat), .pointer (some ⟨Bx, 0, none⟩), .bool true, .bool false, .slice a n c, .slice A2 nn C2', .int .i64 nn, .int .i64 nn, .bool false, u27, u28, u29, u30, u31, u32, u33, u34, u35, u36, u37, u38, u39, u40, .tuple #[.slice A3 N3 X3, .nilIface], .slice A8 nn C8, .tuple #[.slice A3 N3 X3, .nilIface], .slice A3 N3 X3, .nilIface, .nilIface, .bool false, .tuple #[.pointer (some ⟨q, 0, none⟩), .nilIface], .slice A3 N3 X3, .tuple #[.pointer (some ⟨q, 0, none⟩), .nilIface], .pointer (some ⟨q, 0, none⟩), .nilIface, .nilIface, .bool false, .bool false, .pointer (some ⟨q, 0, none⟩), .bool false, .bool false, .pointer (some ⟨q, 0, none⟩), .int .i64 from_, .func (.func 53) #[] #[.pointer (some ⟨w5.heap.size + 1, 0, none⟩), .pointer (some ⟨w5.heap.size, 0, none⟩)], .func (.func 53) #[] #[.pointer (some ⟨w5.heap.size + 1, 0, none⟩), .pointer (some ⟨w5.heap.size, 0, none⟩)], .bool false, .int .i64 from_, .int .i64 from_, u66, .int .i64 (A : Nat), .func (.func 53) #[] #[.pointer (some ⟨w5.heap.size + 1, 0, none⟩), .pointer (some ⟨w5.heap.size, 0, none⟩)], undef, undef, undef, undef, undef, undef, undef, undef, undef, undef, undef, undef, undef, undef, undef, undef, undef, undef, undef, undef, undef, undef, undef, undef, undef, undef, undef, undef, undef, undef, undef, undef, undef, undef, undef, undef, undef, u106, u107, u108, u109, u110, u111, u112, u113, u114, u115, .bool false, .int .i64 (A : Nat), .func (.func 53) #[] #[.pointer (some ⟨w5.heap.size + 1, 0, none⟩), .pointer (some ⟨w5.heap.size, 0, none⟩)], .int .i64 (x.1 : Nat), .agg #[.string x.2.k, .int .i64 x.2.d, .int .i64 x.2.t, .int .i64 x.2.a, .int .i64 x.2.s], undef, undef, undef, undef, undef, undef, undef, undef, undef, undef, undef, undef, undef, undef, undef, undef, undef, undef, undef, undef, undef, undef, undef], defers := [] } ∧ W1.heap[Bx]? = some (.cells #[.string x.2.k, .int .i64 x.2.d, .int .i64 x.2.t, .int .i64 x.2.a, .int .i64 x.2.s] 32 (0, 0)))
          (fun x a' s A1 B1 row hs hg hr => by obtain ⟨Bx, e, hb⟩ := hs; exact ⟨Bx, e, own_cells hb hg hr⟩) ?assignD ?bodyD ?doneD ?stopD
        case assignD =>
          intro l pre x W1 K hI hK
          obtain ⟨⟨hpre, hlb, hkd, hzz⟩, hB⟩ := hI
          have hzW1 := hB.size
          have HKK := Lib.hid hK
          have HPRE := Lib.hid hpre
          have HLB1 := Lib.hid hlb
          have HKD := Lib.hid hkd
          clear hK hpre hlb hkd
          unfold encE
          gi_wp2
          exact HKK.out _ _ ((KeepsOthers.alloc _ _).from _) (KpW.of_below ((Below.refl _ W1).alloc (Nat.le_refl _) _) hB.size (by omega) (by omega)) ⟨⟨HPRE.out, HLB1.out.below ((Below.refl _ W1).alloc (Nat.le_refl _) _) (Nat.le_refl _), (Below.heap_alloc W1 _ _ (lt_of_heap HKD.out)).trans HKD.out, Nat.le_trans hzz (by simp)⟩, hB.alloc hB.size _⟩ ⟨W1.heap.size, rfl, heap_alloc_new W1 _⟩
        case bodyD =>
          rintro l pre ⟨xk, ⟨xs, xd, xt, xa, xz⟩⟩ a' W1 hle hr ⟨⟨hpre, hlb, hkd, hzz⟩, hB⟩ ⟨Bx, rfl, hbx⟩ hlt
          have hrow1 := HROW5.out.below hB (Nat.le_refl _)
          have hel := HEL.out
          obtain ⟨g, rfl, _, _, _, hat⟩ := hrow1.head (by omega)
          obtain ⟨k, hkp⟩ : ∃ k, pre.length = k := ⟨_, rfl⟩
          obtain ⟨p, hp⟩ : ∃ p, A + k = p := ⟨_, rfl⟩
          have hpl : p < es.length := by omega
          have hen := hat p hpl
          have hee := entD_eq es p hpl
          obtain ⟨en, hene⟩ : ∃ en, es[p] = en := ⟨_, rfl⟩
          rw [hene] at hen hee
          obtain ⟨ek, ed, et, ea, es'⟩ := en
          obtain ⟨f0, f1, f2, f3, f4⟩ := hen
          simp only at f0 f1 f2 f3 f4
          rw [hkp, hp] at hlb
          have hwb1 := HWB5.out.below hB (Nat.le_refl _)
          have c7 := blk_cell hwb1.c7 0
          have c6 := blk_cell hwb1.c6 0
          have z6 := blk_frozen hwb1.c6 0
          have c14 := blk_cell hlb.k2 0
          have z14 := blk_frozen hlb.k2 0
          have d0 : W1.cell? ⟨Bx, 0, none⟩ = some (.string xs) := blk_cell hbx 0
          have d1 : W1.cell? ⟨Bx, 1, none⟩ = some (.int .i64 xd) := blk_cell hbx 1
          have d2 : W1.cell? ⟨Bx, 2, none⟩ = some (.int .i64 xt) := blk_cell hbx 2
          have d3 : W1.cell? ⟨Bx, 3, none⟩ = some (.int .i64 xa) := blk_cell hbx 3
          have d4 : W1.cell? ⟨Bx, 4, none⟩ = some (.int .i64 xz) := blk_cell hbx 4
          have tl : decide (nn ≤ p) = false := decide_eq_false (by omega)
          have i1 : (p : Int) < (nn : Int) := by omega
          have hgd := guard_ent
          have hwsu := walkL_succ es A pre.length
          rw [hkp, hp, hee] at hwsu
          rw [hkp] at hpre
          have hlen : ∀ y, (pre ++ [y]).length = k + 1 := fun y => by simp [hkp]
          have hKF : ∀ (k : Nat) (u : Value) (m : Nat), KeepsFrom W2.heap.size W1 ((W1.drewN m).setCell ⟨k, 0, none⟩ u) := fun k u m => ((show KeepsOthers W1 (W1.drewN m) from ⟨Nat.le_refl _, fun _ _ h _ => h⟩).trans (KeepsOthers.setCell (W1.drewN m) _ _)).from _
          have HW := Lib.hid hwsu
          have HPRE := Lib.hid hpre
          have HP := Lib.hid hp
          have HB := Lib.hid hB
          have HLEN := Lib.hid hlen
          have HKF := Lib.hid hKF
          have HL1 := Lib.hid hlb
          have HKD := Lib.hid hkd
          clear hwsu hpre hat hene hlb hbx hlen hKF hwb1 hrow1 hB hr hkp hp hkd
          by_cases hk : xk = p
          · subst hk
            have t1 : (((xk : Nat) : Int) != ((xk : Nat) : Int)) = false := by simp
            have heq := fun w => neq_ent w ⟨xs, xd, xt, xa, xz⟩ ⟨ek, ed, et, ea, es'⟩
            simp only at heq
            cases hq : entEq ⟨xs, xd, xt, xa, xz⟩ ⟨ek, ed, et, ea, es'⟩ with
            | true =>
              rw [hq, Bool.not_true] at heq
              have hx := (entEq_iff _ _).1 hq
              have HX := Lib.hid hx
              clear hq hx
              gi_wp2
              refine region_quiet_r (by kernel_rfl) (by kernel_rfl) (by kernel_rfl) ?_
              repeat (quiet_step_in (fail))
              refine wpQuietIn_nil ?_
              intro _ hw'
              obtain ⟨nq, hw''⟩ := hw'
              subst hw''
              gi_wp2
              have hle := HLEN.out (xk, (⟨xs, xd, xt, xa, xz⟩ : EntV))
              have hap : A + (k + 1) = xk + 1 := by have := HP.out; omega
              have hput := (HL1.out.drewN nq).put (by omega) (xk + 1)
              rw [show ((xk + 1 : Nat) : Int) = (xk : Int) + 1 from rfl] at hput
              refine ⟨HKF.out _ _ _, ⟨(below_drewN (Below.refl _ _) _).setCell (p := ⟨w5.heap.size + 1 + 1, 0, none⟩) (by simp only; omega) _, Below.heap_setCell _ ⟨w5.heap.size + 1 + 1, 0, none⟩ _ _ (by simp only; omega), Below.heap_setCell _ ⟨w5.heap.size + 1 + 1, 0, none⟩ _ _ (by simp only; omega)⟩, ⟨⟨?_, ?_, ?_, ?_⟩, (below_drewN HB.out _).setCell (p := ⟨w5.heap.size + 1 + 1, 0, none⟩) (by simp only; omega) _⟩⟩
              · rw [hle, HW.out, ← HPRE.out, HX.out]
              · rw [hle, hap]; exact hput
              · exact (Below.heap_setCell _ ⟨w5.heap.size + 1 + 1, 0, none⟩ _ _ (by simp only; omega)).trans HKD.out
              · simpa [World.setCell] using hzz
            | false =>
              rw [hq, Bool.not_false] at heq
              have hne : ¬ (⟨xs, xd, xt, xa, xz⟩ : EntV) = ⟨ek, ed, et, ea, es'⟩ := fun e => by rw [(entEq_iff _ _).2 e] at hq; cases hq
              have HNE := Lib.hid hne
              clear hq hne
              gi_wp2
              refine region_quiet_r (by kernel_rfl) (by kernel_rfl) (by kernel_rfl) ?_
              repeat (quiet_step_in (fail))
              refine wpQuietIn_nil ?_
              intro _ hw'
              obtain ⟨nq, hw''⟩ := hw'
              subst hw''
              gi_wp2
              refine ⟨HKF.out _ _ _, rfl, fun e => ?_⟩
              rw [HLEN.out, HW.out, ← HPRE.out] at e
              have e2 := List.append_cancel_left e
              simp only [List.cons.injEq, Prod.mk.injEq, and_true, true_and] at e2
              exact HNE.out e2
          · have t1 : (((xk : Nat) : Int) != ((p : Nat) : Int)) = true := by simp; omega
            have HK := Lib.hid hk
            clear hk
            gi_wp2
            refine region_quiet_r (by kernel_rfl) (by kernel_rfl) (by kernel_rfl) ?_
            repeat (quiet_step_in (fail))
            refine wpQuietIn_nil ?_
            intro _ hw'
            obtain ⟨nq, hw''⟩ := hw'
            subst hw''
            gi_wp2
            refine ⟨HKF.out _ _ _, rfl, fun e => ?_⟩
            rw [HLEN.out, HW.out, ← HPRE.out] at e
            have e2 := List.append_cancel_left e
            simp only [List.cons.injEq, Prod.mk.injEq, and_true] at e2
            exact HK.out e2.1
        case doneD =>
          rintro D2 ys W3 hDD rfl ⟨⟨hpre, hlb, hkd, hzz⟩, hB⟩ hK
          rw [walkL_length] at hlb
          obtain ⟨p2, hp2⟩ : ∃ p, A + (nn - A) = p := ⟨_, rfl⟩
          rw [hp2] at hlb
          have hwb3 := HWB5.out.below hB (Nat.le_refl _)
          have c7 := blk_cell hwb3.c7 0
          have hc6 := hwb3.c6
          have c6 := blk_cell hwb3.c6 0
          have z6 := blk_frozen hwb3.c6 0
          have c14 := blk_cell hlb.k2 0
          have tl : decide (nn ≤ p2) = true := decide_eq_true (by omega)
          have hKB := hK
          have HB := Lib.hid hB
          have HKD := Lib.hid hkd
          have HK := Lib.hid hK
          clear hB hkd hK hpre hlb hwb3 hp2 hKB
          have h6n : W3.heap.size = (W3.setCell ⟨W.heap.size + 1, 0, none⟩ (.bool true)).heap.size := by simp [World.setCell]
          have hlo : W.heap.size ≤ D ∧ W.heap.size ≤ D2 := ⟨by omega, by omega⟩
          have hDn : D ≠ W.heap.size + 1 := by omega
          have hDn2 : D2 ≠ W.heap.size + 1 := by omega
          have hDD2 : D ≠ D2 := by omega
          have hB6 := (HB5.out.trans (HB.out.mono HB5.out.size)).setCell (p := ⟨W.heap.size + 1, 0, none⟩) (by simp only; omega) (.bool true)
          have HB6 := Lib.hid hB6
          have HC6 := Lib.hid hc6
          clear hB6 hc6 h6n
          gi_wp2
          exact walks_end rfl (blk_set HC6.out 0 (.bool true)) ((Below.heap_setCell W3 ⟨W.heap.size + 1, 0, none⟩ _ D hDn).trans HKD.out) ((Below.heap_setCell W3 ⟨W.heap.size + 1, 0, none⟩ _ D2 hDn2).trans HK.out) hDD2 hlo HB6.out
        case stopD =>
          rintro D2 cd pre W3 hD ⟨k, hk, rfl⟩ ⟨rfl, hne⟩ hK
          exact absurd (by rw [walkL_length]) hne
      case stop =>
        rintro D cd pre W1 hDD ⟨k, hk, rfl⟩ (⟨rfl, hne⟩ | ⟨rfl, hpre, hs, hlb, hzz, hB⟩) hK
        · exact absurd (by rw [walkL_length]) hne
        rw [walkL_length] at hlb hs
        obtain ⟨p, hp⟩ : ∃ p, A + k = p := ⟨_, rfl⟩
        rw [hp] at hlb
        have hwbX := HWB5.out.below hB (Nat.le_refl _)
        have c7 := blk_cell hwbX.c7 0
        have c5 := blk_cell hwbX.c5 0
        have c14 := blk_cell hlb.k2 0
        have c15 := blk_cell hlb.k3 0
        have HLBX := Lib.hid hlb
        have HBX := Lib.hid hB
        have HKX := Lib.hid hK
        have s1 : IntKind.i64.wrap ((p : Int) - (A : Int)) = (k : Int) := by rw [IntKind.wrap_i64]; omega
        have te : ((k : Int) != stop) = false := by simp [hs]
        clear hpre hlb hB hK hwbX hp hs
        gi_upto_region 31 with fail
        gi_cut [116] from 144 (fun s116 wx => s116 = .bool false ∧ W1 = wx)
        case first =>
          by_cases hpn : p < nn
          · have tl : decide (p < nn) = true := decide_eq_true hpn
            clear hpn
            gi_wp2
            all_goals gi_meet
            all_goals exact ⟨rfl, rfl⟩
          · have tl : decide (p < nn) = false := decide_eq_false hpn
            clear hpn
            gi_wp2
            all_goals gi_meet
            all_goals exact ⟨rfl, rfl⟩
        case rest =>
        obtain ⟨rfl, rfl⟩ := hcut
        have hlb := HLBX.out
        have hB := HBX.out
        have hK := HKX.out
        clear c5 c7 c14 c15 s1 te HLBX HBX HKX
        have hwb1 := HWB5.out.below hB (Nat.le_refl _)
        have g121 := (hB.block b12 hb12).trans G12.out
        have c14 := blk_cell hlb.k2 0
        have c15 := blk_cell hlb.k3 0
        have z14 := blk_frozen hlb.k2 0
        have hlb2 := hlb.put (by omega) A
        have hBW2 := hB.setCell (p := ⟨w5.heap.size + 1 + 1, 0, none⟩) (by simp only; omega) (.int .i64 (A : Nat))
        have hst2 := walk_stops Fence.wide 4 trivial rfl (by omega) w5 _ q v es HD5.out (by rw [HEL.out]; omega) w5.heap.size (w5.heap.size + 1) from_ hf.2 _ hBW2 hlb2.k0 hlb2.k1
        rw [hA, HEL.out] at hst2
        have hz2 : (W1.setCell ⟨w5.heap.size + 1 + 1, 0, none⟩ (.int .i64 (A : Nat))).heap.size = W1.heap.size := by simp [World.setCell]
        have hDne : D ≠ w5.heap.size + 1 + 1 := by omega
        have hK2 := (Below.heap_setCell W1 ⟨w5.heap.size + 1 + 1, 0, none⟩ (.int .i64 (A : Nat)) D hDne).trans hK
        have HLB2 := Lib.hid hlb2
        have HBW2 := Lib.hid hBW2
        have HST2 := Lib.hid hst2
        have HK2 := Lib.hid hK2
        have HZ2 := Lib.hid hz2
        clear hwb1 g121 hlb hB hK hlb2 hBW2 hst2 hz2 hK2
        gi_wp2
        clear c14 c15 z14
        obtain ⟨W2, hW2⟩ : ∃ W2, W2 = W1.setCell ⟨w5.heap.size + 1 + 1, 0, none⟩ (.int .i64 (A : Nat)) := ⟨_, rfl⟩
        rw [← hW2] at HLB2 HBW2 HST2 HK2 HZ2 ⊢
        clear hW2
        have hzW2 := HZ2.out
        have hD2 := lt_of_heap HK2.out
        have hl2 := HLB2.out.lt
        refine wpIn_rangeFunc_ownH (F := Fence.wide) (n := 5) rfl (by omega) (gf := 53) (lb := #[.pointer (some ⟨w5.heap.size + 1, 0, none⟩), .pointer (some ⟨w5.heap.size, 0, none⟩)]) rfl trivial (enters_of Tryd.func53 (by kernel_rfl) rfl)
          HST2.out (fun h k => KpW.trans h k) (KpW.putObj (by omega) (by omega) (by omega)) (Below.refl _ _) (fun _ => rfl)
          (fun pre W1 => (pre = walkL es A pre.length ∧ LB W1 w5.heap.size (w5.heap.size + 1 + 1 + 1) q from_ A (A + pre.length) ∧ W1.heap[D]? = some (.deferred (some [])) ∧ W2.heap.size ≤ W1.heap.size) ∧ Below w5.heap.size w5 W1)
          (fun cd pre W1 => (cd = .ret ∧ pre ≠ walkL es A pre.length))
          (fun s A1 B1 row hs hg hr => ⟨⟨hs.1.1, hs.1.2.1.own (by omega) hg hr, own_blk hD2 hs.1.2.2.1 hg hr, Nat.le_trans hs.1.2.2.2 hg.size⟩, (ownFrom_below (β := Unit) (Nat.le_refl _) (by omega)) () A1 B1 row hs.2 hg hr⟩)
          (fun cd s A1 B1 row hs hg hr => hs)
          ⟨⟨rfl, HLB2.out, HK2.out, Nat.le_refl _⟩, HBW2.out⟩
          (fun x a' W1 => ∃ Bx, a' = { tmps := #[.slice a n c, .int .i64 from_, .int .i64 stop, undef, undef, .pointer (some ⟨W.heap.size, 0, none⟩), .pointer (some ⟨W.heap.size + 1, 0, none⟩), .pointer (some ⟨w1.heap.size, 0, none⟩), u8, u9, .slice A3 N3 X3, .nilIface, .pointer (some ⟨b12, 0, none⟩), .func (.func 53) #[] #[.pointer (some ⟨w5.heap.size + 1, 0, none⟩), .pointer (some ⟨w5.heap.size, 0, none⟩)], .pointer (some ⟨w5.heap.size + 1 + 1, 0, none⟩), .pointer (some ⟨w5.heap.size + 1 + 1 + 1, 0, none⟩), undef, undef, .int .i64 (x.1 : Nat), .pointer (some ⟨Bx, 0, none⟩), .bool true, .bool false, .slice a n c, .slice A2 nn C2', .int .i64 nn, .int .i64 nn, .bool false, u27, u28, u29, u30, u31, u32, u33, u34, u35, u36, u37, u38, u39, u40, .tuple #[.slice A3 N3 X3, .nilIface], .slice A8 nn C8, .tuple #[.slice A3 N3 X3, .nilIface], .slice A3 N3 X3, .nilIface, .nilIface, .bool false, .tuple #[.pointer (some ⟨q, 0, none⟩), .nilIface], .slice A3 N3 X3, .tuple #[.pointer (some ⟨q, 0, none⟩), .nilIface], .pointer (some ⟨q, 0, none⟩), .nilIface, .nilIface, .bool false, .bool false, .pointer (some ⟨q, 0, none⟩), .bool false, .bool false, .pointer (some ⟨q, 0, none⟩), .int .i64 from_, .func (.func 53) #[] #[.pointer (some ⟨w5.heap.size + 1, 0, none⟩), .pointer (some ⟨w5.heap.size, 0, none⟩)], .func (.func 53) #[] #[.pointer (some ⟨w5.heap.size + 1, 0, none⟩), .pointer (some ⟨w5.heap.size, 0, none⟩)], .bool false, .int .i64 from_, .int .i64 from_, u66, .int .i64 (A : Nat), .func (.func 53) #[] #[.pointer (some ⟨w5.heap.size + 1, 0, none⟩), .pointer (some ⟨w5.heap.size, 0, none⟩)], undef, undef, undef, undef, undef, undef, undef, undef, undef, undef, undef, undef, undef, undef, undef, undef, undef, undef, undef, undef, undef, undef, undef, undef, undef, undef, undef, undef, undef, undef, undef, undef, undef, undef, undef, undef, undef, u106, u107, u108, u109, u110, u111, u112, u113, u114, u115, .bool false, .int .i64 (A : Nat), .func (.func 53) #[] #[.pointer (some ⟨w5.heap.size + 1, 0, none⟩), .pointer (some ⟨w5.heap.size, 0, none⟩)], .int .i64 (x.1 : Nat), .agg #[.string x.2.k, .int .i64 x.2.d, .int .i64 x.2.t, .int .i64 x.2.a, .int .i64 x.2.s], undef, undef, undef, undef, undef, undef, undef, undef, undef, undef, undef, undef, undef, undef, undef, undef, undef, undef, undef, undef, undef, undef, undef], defers := [] } ∧ W1.heap[Bx]? = some (.cells #[.string x.2.k, .int .i64 x.2.d, .int .i64 x.2.t, .int .i64 x.2.a, .int .i64 x.2.s] 32 (0, 0)))
          (fun x a' s A1 B1 row hs hg hr => by obtain ⟨Bx, e, hb⟩ := hs; exact ⟨Bx, e, own_cells hb hg hr⟩) ?assignS ?bodyS ?doneS ?stopS
        case assignS =>
          intro l pre x W1 K hI hK
          obtain ⟨⟨hpre, hlb, hkd, hzz⟩, hB⟩ := hI
          have hzW1 := hB.size
          have HKK := Lib.hid hK
          have HPRE := Lib.hid hpre
          have HLB1 := Lib.hid hlb
          have HKD := Lib.hid hkd
          clear hK hpre hlb hkd
          unfold encE
          gi_wp2
          exact HKK.out _ _ ((KeepsOthers.alloc _ _).from _) (KpW.of_below ((Below.refl _ W1).alloc (Nat.le_refl _) _) hB.size (by omega) (by omega)) ⟨⟨HPRE.out, HLB1.out.below ((Below.refl _ W1).alloc (Nat.le_refl _) _) (Nat.le_refl _), (Below.heap_alloc W1 _ _ (lt_of_heap HKD.out)).trans HKD.out, Nat.le_trans hzz (by simp)⟩, hB.alloc hB.size _⟩ ⟨W1.heap.size, rfl, heap_alloc_new W1 _⟩
        case bodyS =>
          rintro l pre ⟨xk, ⟨xs, xd, xt, xa, xz⟩⟩ a' W1 hle hr ⟨⟨hpre, hlb, hkd, hzz⟩, hB⟩ ⟨Bx, rfl, hbx⟩ hlt
          have hrow1 := HROW5.out.below hB (Nat.le_refl _)
          have hel := HEL.out
          obtain ⟨g, rfl, _, _, _, hat⟩ := hrow1.head (by omega)
          obtain ⟨k, hkp⟩ : ∃ k, pre.length = k := ⟨_, rfl⟩
          obtain ⟨p, hp⟩ : ∃ p, A + k = p := ⟨_, rfl⟩
          have hpl : p < es.length := by omega
          have hen := hat p hpl
          have hee := entD_eq es p hpl
          obtain ⟨en, hene⟩ : ∃ en, es[p] = en := ⟨_, rfl⟩
          rw [hene] at hen hee
          obtain ⟨ek, ed, et, ea, es'⟩ := en
          obtain ⟨f0, f1, f2, f3, f4⟩ := hen
          simp only at f0 f1 f2 f3 f4
          rw [hkp, hp] at hlb
          have hwb1 := HWB5.out.below hB (Nat.le_refl _)
          have c7 := blk_cell hwb1.c7 0
          have c6 := blk_cell hwb1.c6 0
          have z6 := blk_frozen hwb1.c6 0
          have c14 := blk_cell hlb.k2 0
          have z14 := blk_frozen hlb.k2 0
          have d0 : W1.cell? ⟨Bx, 0, none⟩ = some (.string xs) := blk_cell hbx 0
          have d1 : W1.cell? ⟨Bx, 1, none⟩ = some (.int .i64 xd) := blk_cell hbx 1
          have d2 : W1.cell? ⟨Bx, 2, none⟩ = some (.int .i64 xt) := blk_cell hbx 2
          have d3 : W1.cell? ⟨Bx, 3, none⟩ = some (.int .i64 xa) := blk_cell hbx 3
          have d4 : W1.cell? ⟨Bx, 4, none⟩ = some (.int .i64 xz) := blk_cell hbx 4
          have tl : decide (nn ≤ p) = false := decide_eq_false (by omega)
          have i1 : (p : Int) < (nn : Int) := by omega
          have hgd := guard_ent
          have hwsu := walkL_succ es A pre.length
          rw [hkp, hp, hee] at hwsu
          rw [hkp] at hpre
          have hlen : ∀ y, (pre ++ [y]).length = k + 1 := fun y => by simp [hkp]
          have hKF : ∀ (k : Nat) (u : Value) (m : Nat), KeepsFrom W2.heap.size W1 ((W1.drewN m).setCell ⟨k, 0, none⟩ u) := fun k u m => ((show KeepsOthers W1 (W1.drewN m) from ⟨Nat.le_refl _, fun _ _ h _ => h⟩).trans (KeepsOthers.setCell (W1.drewN m) _ _)).from _
          have HW := Lib.hid hwsu
          have HPRE := Lib.hid hpre
          have HP := Lib.hid hp
          have HB := Lib.hid hB
          have HLEN := Lib.hid hlen
          have HKF := Lib.hid hKF
          have HL1 := Lib.hid hlb
          have HKD := Lib.hid hkd
          clear hwsu hpre hat hene hlb hbx hlen hKF hwb1 hrow1 hB hr hkp hp hkd
          by_cases hk : xk = p
          · subst hk
            have t1 : (((xk : Nat) : Int) != ((xk : Nat) : Int)) = false := by simp
            have heq := fun w => neq_ent w ⟨xs, xd, xt, xa, xz⟩ ⟨ek, ed, et, ea, es'⟩
            simp only at heq
            cases hq : entEq ⟨xs, xd, xt, xa, xz⟩ ⟨ek, ed, et, ea, es'⟩ with
            | true =>
              rw [hq, Bool.not_true] at heq
              have hx := (entEq_iff _ _).1 hq
              have HX := Lib.hid hx
              clear hq hx
              gi_wp2
              refine region_quiet_r (by kernel_rfl) (by kernel_rfl) (by kernel_rfl) ?_
              repeat (quiet_step_in (fail))
              refine wpQuietIn_nil ?_
              intro _ hw'
              obtain ⟨nq, hw''⟩ := hw'
              subst hw''
              gi_wp2
              have hle := HLEN.out (xk, (⟨xs, xd, xt, xa, xz⟩ : EntV))
              have hap : A + (k + 1) = xk + 1 := by have := HP.out; omega
              have hput := (HL1.out.drewN nq).put (by omega) (xk + 1)
              rw [show ((xk + 1 : Nat) : Int) = (xk : Int) + 1 from rfl] at hput
              refine ⟨HKF.out _ _ _, ⟨(below_drewN (Below.refl _ _) _).setCell (p := ⟨w5.heap.size + 1 + 1, 0, none⟩) (by simp only; omega) _, Below.heap_setCell _ ⟨w5.heap.size + 1 + 1, 0, none⟩ _ _ (by simp only; omega), Below.heap_setCell _ ⟨w5.heap.size + 1 + 1, 0, none⟩ _ _ (by simp only; omega)⟩, ⟨⟨?_, ?_, ?_, ?_⟩, (below_drewN HB.out _).setCell (p := ⟨w5.heap.size + 1 + 1, 0, none⟩) (by simp only; omega) _⟩⟩
              · rw [hle, HW.out, ← HPRE.out, HX.out]
              · rw [hle, hap]; exact hput
              · exact (Below.heap_setCell _ ⟨w5.heap.size + 1 + 1, 0, none⟩ _ _ (by simp only; omega)).trans HKD.out
              · simpa [World.setCell] using hzz
            | false =>
              rw [hq, Bool.not_false] at heq
              have hne : ¬ (⟨xs, xd, xt, xa, xz⟩ : EntV) = ⟨ek, ed, et, ea, es'⟩ := fun e => by rw [(entEq_iff _ _).2 e] at hq; cases hq
              have HNE := Lib.hid hne
              clear hq hne
              gi_wp2
              refine region_quiet_r (by kernel_rfl) (by kernel_rfl) (by kernel_rfl) ?_
              repeat (quiet_step_in (fail))
              refine wpQuietIn_nil ?_
              intro _ hw'
              obtain ⟨nq, hw''⟩ := hw'
              subst hw''
              gi_wp2
              refine ⟨HKF.out _ _ _, rfl, fun e => ?_⟩
              rw [HLEN.out, HW.out, ← HPRE.out] at e
              have e2 := List.append_cancel_left e
              simp only [List.cons.injEq, Prod.mk.injEq, and_true, true_and] at e2
              exact HNE.out e2
          · have t1 : (((xk : Nat) : Int) != ((p : Nat) : Int)) = true := by simp; omega
            have HK := Lib.hid hk
            clear hk
            gi_wp2
            refine region_quiet_r (by kernel_rfl) (by kernel_rfl) (by kernel_rfl) ?_
            repeat (quiet_step_in (fail))
            refine wpQuietIn_nil ?_
            intro _ hw'
            obtain ⟨nq, hw''⟩ := hw'
            subst hw''
            gi_wp2
            refine ⟨HKF.out _ _ _, rfl, fun e => ?_⟩
            rw [HLEN.out, HW.out, ← HPRE.out] at e
            have e2 := List.append_cancel_left e
            simp only [List.cons.injEq, Prod.mk.injEq, and_true] at e2
            exact HK.out e2.1
        case doneS =>
          rintro D2 ys W3 hDD rfl ⟨⟨hpre, hlb, hkd, hzz⟩, hB⟩ hK
          rw [walkL_length] at hlb
          obtain ⟨p2, hp2⟩ : ∃ p, A + (nn - A) = p := ⟨_, rfl⟩
          rw [hp2] at hlb
          have hwb3 := HWB5.out.below hB (Nat.le_refl _)
          have c7 := blk_cell hwb3.c7 0
          have hc6 := hwb3.c6
          have c6 := blk_cell hwb3.c6 0
          have z6 := blk_frozen hwb3.c6 0
          have c14 := blk_cell hlb.k2 0
          have tl : decide (nn ≤ p2) = true := decide_eq_true (by omega)
          have hKB := hK
          have HB := Lib.hid hB
          have HKD := Lib.hid hkd
          have HK := Lib.hid hK
          clear hB hkd hK hpre hlb hwb3 hp2 hKB
          have h6n : W3.heap.size = (W3.setCell ⟨W.heap.size + 1, 0, none⟩ (.bool true)).heap.size := by simp [World.setCell]
          have hlo : W.heap.size ≤ D ∧ W.heap.size ≤ D2 := ⟨by omega, by omega⟩
          have hDn : D ≠ W.heap.size + 1 := by omega
          have hDn2 : D2 ≠ W.heap.size + 1 := by omega
          have hDD2 : D ≠ D2 := by omega
          have hB6 := (HB5.out.trans (HB.out.mono HB5.out.size)).setCell (p := ⟨W.heap.size + 1, 0, none⟩) (by simp only; omega) (.bool true)
          have HB6 := Lib.hid hB6
          have HC6 := Lib.hid hc6
          clear hB6 hc6 h6n
          gi_wp2
          exact walks_end rfl (blk_set HC6.out 0 (.bool true)) ((Below.heap_setCell W3 ⟨W.heap.size + 1, 0, none⟩ _ D hDn).trans HKD.out) ((Below.heap_setCell W3 ⟨W.heap.size + 1, 0, none⟩ _ D2 hDn2).trans HK.out) hDD2 hlo HB6.out
        case stopS =>
          rintro D2 cd pre W3 hD ⟨k, hk, rfl⟩ ⟨rfl, hne⟩ hK
          exact absurd (by rw [walkL_length]) hne
end Go.Proofs.YtfeldllcpeibcaaDoor
