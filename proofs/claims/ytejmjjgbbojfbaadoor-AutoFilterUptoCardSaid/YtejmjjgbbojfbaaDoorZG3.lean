/- Merged: El, DictA, Ent. -/
import Derived.Test.YtejmjjgbbojfbaaDoorZLib
import Derived.Test.YtejmjjgbbojfbaaDoorProg
import Derived.Test.YtejmjjgbbojfbaaDoorZDictP
import Derived.Outline
import Derived.BigQuiet
/- The slice type of bytes. -/
namespace Go.Proofs.YtejmjjgbbojfbaaDoor
theorem elBytes : Elem Tryd.prog 26 5 (.int .u8 0) 1 := ⟨Tryd.underlying26, by kernel_rfl, rfl, by decide⟩
end Go.Proofs.YtejmjjgbbojfbaaDoor

/- dict: how many bytes two keys share. -/
namespace Go.Proofs.YtejmjjgbbojfbaaDoor
set_option linter.unusedVariables false
open Go.ChangeShapes Go.WideShapes Go.ChangeAt Go.RowKit

set_option maxRecDepth 100000 in
set_option maxHeartbeats 1000000 in
theorem shared_any (w : World) (a b : ByteArray) (ha : a.size ≤ 1000000000000) (hb : b.size ≤ 1000000000000) :
    Calls Tryd.prog 79 #[.string a, .string b] w fun e w' => e = .returned (.int .i64 (shr a.data.toList b.data.toList : Nat)) ∧ ∃ d, w' = w.drewN d := by
  have hal : a.data.toList.length = a.size := Array.length_toList (xs := a.data)
  have hbl : b.data.toList.length = b.size := Array.length_toList (xs := b.data)
  have hle := shr_le a.data.toList b.data.toList
  have hst := shr_step a.data.toList b.data.toList
  rw [hal, hbl] at hle
  obtain ⟨n, hn⟩ : ∃ n, shr a.data.toList b.data.toList = n := ⟨_, rfl⟩
  rw [hn] at hle ⊢
  have hs2 : ∀ k, k ≤ n → (k < n ↔ ∃ (h1 : k < a.size) (h2 : k < b.size), ((a[k]'h1).toNat : Int) = ((b[k]'h2).toNat : Int)) := fun k hk => by
    rw [← hn, hst k (by omega)]
    constructor
    · rintro ⟨h1, h2, e⟩
      refine ⟨by omega, by omega, ?_⟩
      exact congrArg (fun x : UInt8 => ((x.toNat : Nat) : Int)) e
    · rintro ⟨h1, h2, e⟩
      refine ⟨by omega, by omega, ?_⟩
      exact UInt8.toNat_inj.1 (Int.ofNat_inj.1 e)
  have HS := Lib.hid hs2
  clear hal hbl hst hn hs2
  go_enter Tryd.func79, Tryd.ntmps79
  go_wp2
  go_loopw [5] (fun s5 wr => ∃ k d : Nat, s5 = .int .i64 k ∧ k ≤ n ∧ wr = w.drewN d) (fun s5 _ => n - (intOf s5).toNat)
  case atStart => exact ⟨0, 0, rfl, Nat.zero_le _, rfl⟩
  case round =>
    obtain ⟨k, d, rfl, hk, rfl⟩ := hrel
    have hst := HS.out k hk
    by_cases hlt : k < n
    · obtain ⟨h1, h2, e⟩ := hst.1 hlt
      have i1 : (k : Int) < (a.size : Int) := by omega
      have i2 : (k : Int) < (b.size : Int) := by omega
      have t3 : (((a[k]'h1).toNat : Int) == ((b[k]'h2).toNat : Int)) = true := by rw [beq_iff_eq]; exact e
      have E := Lib.hid e
      clear hst e
      go_wp2
      go_quiet (fail)
      go_wp2
      go_roundw
      case rel => exact ⟨k + 1, _, by go_num, by omega, rfl⟩
      case measure => simp [intOf]; omega
    · by_cases h1 : k < a.size
      · by_cases h2 : k < b.size
        · have i1 : (k : Int) < (a.size : Int) := by omega
          have i2 : (k : Int) < (b.size : Int) := by omega
          have t3 : (((a[k]'h1).toNat : Int) == ((b[k]'h2).toNat : Int)) = false := by
            rw [beq_eq_false_iff_ne]; exact fun e => hlt (hst.2 ⟨h1, h2, e⟩)
          clear hst
          obtain rfl : k = n := by omega
          go_wp2
          go_quiet (fail)
          go_wp2
          go_ret
          exact ⟨rfl, _, World.drewN_drewN _ _ _⟩
        · have t2 : decide (k < b.size) = false := decide_eq_false h2
          clear hst
          obtain rfl : k = n := by omega
          go_wp2
          go_quiet (fail)
          go_wp2
          go_ret
          exact ⟨rfl, _, World.drewN_drewN _ _ _⟩
      · have t1 : decide (k < a.size) = false := decide_eq_false h1
        clear hst
        obtain rfl : k = n := by omega
        go_wp2
        go_quiet (fail)
        go_wp2
        go_ret
        exact ⟨rfl, _, World.drewN_drewN _ _ _⟩
end Go.Proofs.YtejmjjgbbojfbaaDoor

/- Lists of entries as cells: that read; of the call's own; append. -/
namespace Go.Proofs.YtejmjjgbbojfbaaDoor
set_option linter.unusedVariables false
open Go.ChangeShapes Go.WideShapes Go.ChangeAt Go.RowKit

def EntV.cells (e : EntV) : List Value := [.string e.k, .int .i64 e.d, .int .i64 e.t, .int .i64 e.a, .int .i64 e.s]
/-- A list of entries that reads. -/
def RdEnt (w : World) (a : Option Addr) (n : Nat) (es : List EntV) : Prop :=
  n = es.length ∧ (0 < es.length → ∃ b o, a = some ⟨b, o, none⟩ ∧ ∀ (i : Nat) (h : i < es.length) (j : Nat) (v : Value), (es[i]).cells[j]? = some v → w.cell? ⟨b, o + i * 5 + j, none⟩ = some v)
theorem RdEnt.drewN {w : World} {a : Option Addr} {n : Nat} {es : List EntV} (h : RdEnt w a n es) (d : Nat) : RdEnt (w.drewN d) a n es := h
theorem RdEnt.below {w w' : World} {a : Option Addr} {n B : Nat} {es : List EntV} (h : RdEnt w a n es) (hb : Below B w w') (hB : w.heap.size ≤ B) : RdEnt w' a n es := by
  refine ⟨h.1, fun h0 => ?_⟩
  obtain ⟨b, o, e, hg⟩ := h.2 h0
  refine ⟨b, o, e, fun i hi j v hv => ?_⟩
  have h1 := hg i hi j v hv
  rw [hb.cell (by have := World.block_lt_of_cell? w _ h1; exact Nat.lt_of_lt_of_le this hB)]; exact h1
/-- Its block lies in the heap. -/
theorem RdEnt.lt {w : World} {a : Option Addr} {n : Nat} {es : List EntV} (h : RdEnt w a n es) : ∀ b o, 0 < es.length → a = some ⟨b, o, none⟩ → b < w.heap.size := by
  intro b o h0 ha
  obtain ⟨b', o', e, hg⟩ := h.2 h0
  rw [e] at ha
  injection ha with ha
  injection ha with e1 _ _
  subst e1
  exact World.block_lt_of_cell? w _ (hg 0 h0 0 _ rfl)
theorem RdEnt.eff {F : Nat → Prop} {w w' : World} {a : Option Addr} {n : Nat} {es : List EntV} (h : RdEnt w a n es) (he : Eff F w w') (hF : ∀ b o, 0 < es.length → a = some ⟨b, o, none⟩ → ¬ F b) : RdEnt w' a n es := by
  refine ⟨h.1, fun h0 => ?_⟩
  obtain ⟨b, o, e, hg⟩ := h.2 h0
  exact ⟨b, o, e, fun i hi j v hv => he.cell (hF b o h0 e) (hg i hi j v hv)⟩
/-- The cells of one entry. -/
structure EntAt (w : World) (b o : Nat) (e : EntV) : Prop where
  k : w.cell? ⟨b, o, none⟩ = some (.string e.k)
  d : w.cell? ⟨b, o + 1, none⟩ = some (.int .i64 e.d)
  t : w.cell? ⟨b, o + 2, none⟩ = some (.int .i64 e.t)
  a : w.cell? ⟨b, o + 3, none⟩ = some (.int .i64 e.a)
  s : w.cell? ⟨b, o + 4, none⟩ = some (.int .i64 e.s)
theorem RdEnt.at_ {w : World} {a : Option Addr} {n : Nat} {es : List EntV} (h : RdEnt w a n es) (h0 : 0 < es.length) : ∃ b o, a = some ⟨b, o, none⟩ ∧ ∀ (i : Nat) (hi : i < es.length), EntAt w b (o + i * 5) es[i] := by
  obtain ⟨b, o, e, hg⟩ := h.2 h0
  exact ⟨b, o, e, fun i hi => ⟨hg i hi 0 _ rfl, hg i hi 1 _ rfl, hg i hi 2 _ rfl, hg i hi 3 _ rfl, hg i hi 4 _ rfl⟩⟩
theorem rdEnt_of {w : World} {b o n : Nat} {es : List EntV} (hn : n = es.length) (h : ∀ (i : Nat) (hi : i < es.length), EntAt w b (o + i * 5) es[i]) : RdEnt w (some ⟨b, o, none⟩) n es := by
  refine ⟨hn, fun _ => ⟨b, o, rfl, fun i hi j v hv => ?_⟩⟩
  have g := h i hi
  match j, hv with
  | 0, hv => rw [← Option.some.inj hv]; exact g.k
  | 1, hv => rw [← Option.some.inj hv]; exact g.d
  | 2, hv => rw [← Option.some.inj hv]; exact g.t
  | 3, hv => rw [← Option.some.inj hv]; exact g.a
  | 4, hv => rw [← Option.some.inj hv]; exact g.s
  | j + 5, hv => simp [EntV.cells] at hv
/-- A part of a list that reads. -/
theorem rdEnt_part {w : World} {b o : Nat} {es : List EntV} (h : ∀ (i : Nat) (hi : i < es.length), EntAt w b (o + i * 5) es[i]) (lo hi : Nat) (hh : hi ≤ es.length) : ∀ (i : Nat) (h : i < ((es.take hi).drop lo).length), EntAt w b (o + lo * 5 + i * 5) ((es.take hi).drop lo)[i] := by
  intro i hi'
  have hl : ((es.take hi).drop lo).length = hi - lo := by rw [List.length_drop, List.length_take, Nat.min_eq_left hh]
  have h1 := h (lo + i) (by omega)
  rw [show o + lo * 5 + i * 5 = o + (lo + i) * 5 by omega]
  rw [List.getElem_drop, List.getElem_take]
  exact h1

/-- v is a list of entries of the call's own: it holds es. -/
def RowE (w : World) (base : Nat) (v : Value) (es : List EntV) : Prop := w.ownsRow base 116 5 v es.length (es.flatMap EntV.cells)
theorem ent_len (e : EntV) : e.cells.length = 5 := rfl
theorem flat5 (es : List EntV) : (es.flatMap EntV.cells).length = es.length * 5 := by
  induction es with
  | nil => rfl
  | cons o ps ih => rw [List.flatMap_cons, List.length_append, ih, ent_len, List.length_cons]; omega
theorem flat5_get : ∀ (es : List EntV) (i j : Nat) (h : i < es.length) (v : Value), (es[i]).cells[j]? = some v → (es.flatMap EntV.cells)[i * 5 + j]? = some v
  | o :: ps, 0, j, _, v, hv => by
    have hj : j < 5 := (List.getElem?_eq_some_iff.1 hv).1
    rw [List.flatMap_cons, List.getElem?_append_left (by rw [ent_len]; omega)]
    simpa using hv
  | o :: ps, i + 1, j, h, v, hv => by
    rw [List.flatMap_cons, List.getElem?_append_right (by rw [ent_len]; omega), ent_len, show (i + 1) * 5 + j - 5 = i * 5 + j by omega]
    exact flat5_get ps i j (by simpa using h) v (by simpa using hv)
theorem RowE.sl {w : World} {base : Nat} {v : Value} {es : List EntV} (h : RowE w base v es) : ∃ a c, v = .slice a es.length c := by
  rcases h.2 with ⟨rfl, h0⟩ | ⟨g, cap, cur, hv, _⟩
  · exact ⟨none, 0, by rw [h0]⟩
  · exact ⟨_, _, hv⟩
theorem RowE.rd {w : World} {base : Nat} {a : Option Addr} {n c : Nat} {es : List EntV} (h : RowE w base (.slice a n c) es) : RdEnt w a n es := by
  rcases h.2 with ⟨hv, h0⟩ | ⟨g, cap, cur, hv, hb, hg, hn, _⟩
  · injection hv with e1 e2 e3
    exact ⟨by rw [e2, h0], fun h1 => by omega⟩
  · have hc := World.ownsRow.cells h (g := g) (by rw [hv]; rfl)
    injection hv with e1 e2 e3
    subst e1 e2 e3
    refine ⟨rfl, fun h1 => ⟨g, 0, rfl, fun i hi j v hvv => ?_⟩⟩
    have := hc _ _ (flat5_get es i j hi v hvv)
    rw [addr_add] at this
    rw [Nat.add_assoc]; exact this
/-- Of a list of the call's own that is not empty: its block's head. -/
theorem RowE.head {w : World} {base : Nat} {a : Option Addr} {n c : Nat} {es : List EntV} (h : RowE w base (.slice a n c) es) (h0 : 0 < es.length) : ∃ g, a = some ⟨g, 0, none⟩ ∧ base ≤ g ∧ g < w.heap.size ∧ n ≤ c ∧ ∀ (i : Nat) (hi : i < es.length), EntAt w g (i * 5) es[i] := by
  obtain ⟨b, o, e, hg⟩ := h.rd.at_ h0
  rcases h.2 with ⟨hv, h1⟩ | ⟨g, cap, cur, hv, hb, hgg, hn, hr⟩
  · omega
  · injection hv with e1 e2 e3
    rw [e1] at e
    injection e with e
    injection e with e4 e5 _
    subst e4 e5 e1 e2 e3
    exact ⟨g, rfl, hb, lt_of_heap hgg, hn, fun i hi => by have := hg i hi; rwa [Nat.zero_add] at this⟩
theorem RowE.eff {F : Nat → Prop} {w w' : World} {base : Nat} {v : Value} {es : List EntV} (h : RowE w base v es) (e : Eff F w w') (hF : ∀ k, v.ownBlock = some k → ¬ F k) : RowE w' base v es := by
  refine ⟨h.1, ?_⟩
  rcases h.2 with hn | ⟨g, cap, cur, rfl, hb, hgg, rest⟩
  · exact .inl hn
  · exact .inr ⟨g, cap, cur, rfl, hb, (e.block g (lt_of_heap hgg) (hF g rfl)).trans hgg, rest⟩
theorem RowE.below {B : Nat} {w w' : World} {base : Nat} {v : Value} {es : List EntV} (h : RowE w base v es) (hb : Below B w w') (hB : w.heap.size ≤ B) : RowE w' base v es :=
  h.eff (F := fun k => B ≤ k) ⟨hb.os, hb.tape, hb.output, hb.size, fun k hk hn => hb.block k (by omega)⟩ (fun k hk => by have := (World.ownsRow.lt h k hk).2; omega)
theorem RowE.drewN {w : World} {base : Nat} {v : Value} {es : List EntV} (h : RowE w base v es) (d : Nat) : RowE (w.drewN d) base v es := h
theorem RowE.lt {w : World} {base : Nat} {v : Value} {es : List EntV} (h : RowE w base v es) : ∀ k, v.ownBlock = some k → base ≤ k ∧ k < w.heap.size := World.ownsRow.lt h
/-- A block of another type is none of it. -/
theorem RowE.ne_type {w : World} {base : Nat} {v : Value} {es : List EntV} {g : Nat} {cs : Array Value} {t : TypeId} {fr : Nat × Nat} (h : RowE w base v es) (hg : w.heap[g]? = some (.cells cs t fr)) (hne : 116 ≠ t) : v.ownBlock ≠ some g := by
  rcases h.2 with ⟨rfl, _⟩ | ⟨g', cap, cur, rfl, _, hgg, _⟩
  · simp [Value.ownBlock]
  · intro he
    have he' : g' = g := by simpa [Value.ownBlock] using he
    subst he'
    rw [hgg] at hg
    injection hg with hg
    injection hg with _ ht
    exact hne ht
theorem rowE_nil (w : World) (base : Nat) : RowE w base (.slice none 0 0) [] := World.ownsRow_nil w base 116 5
theorem RowE.grown {w w' w0 : World} {base : Nat} {v : Value} {es : List EntV} (h : RowE w base v es) (hg : w.grownBy w' v.ownBlock) (hb : Below base w0 w) (hB : base ≤ w0.heap.size) : Below base w0 w' :=
  ⟨hg.os.trans hb.os, hg.tape.trans hb.tape, hg.output.trans hb.output, Nat.le_trans hb.size hg.size, fun k hk => (hg.block k (by have := hb.size; omega) (fun e => by have := (h.lt k e.symm).1; omega)).trans (hb.block k hk)⟩
theorem ent_info : (Tryd.prog.info? 116).map (fun i => (i.size, i.bytes, (i.zero.map fun z => z.cells.size))) = some (5, 48, some 5) := by kernel_rfl
set_option maxRecDepth 100000 in
theorem apE {w0 : World} {k : ByteArray} {d t a' s : Int} {base : Nat} {v : Value} {es : List EntV} (hown : RowE w0 base v es) (hlen : es.length ≤ 1000000000) (hbase : base ≤ w0.heap.size)
    {ops : Array Oper} {rest : List Oper} {o : Oper} {a : Act} {Q : Exit → Act → World → Prop} (hgd : o.guard = none) (x y : Operand)
    (ho : o.op = .call { callee := .builtin .append, args := #[x, y], argTypes := #[114, 114] }) (hs : a.eval x = v) (hy : a.eval y = .slice (some ⟨w0.heap.size, 0, none⟩) 1 1)
    (h : ∀ v' w', RowE w' base v' (es ++ [⟨k, d, t, a', s⟩]) → w0.grownBy w' v.ownBlock → wpList Tryd.prog ops Q rest (a.put o.dst v') w') :
    wpList Tryd.prog ops Q (o :: rest) a (w0.alloc (.cells #[.string k, .int .i64 d, .int .i64 t, .int .i64 a', .int .i64 s] 116)) := by
  obtain ⟨i0, hi, hrest⟩ := Option.map_eq_some_iff.1 ent_info
  simp only [Prod.mk.injEq] at hrest
  obtain ⟨h8, hby, hz⟩ := hrest
  obtain ⟨z, hz, hzs⟩ := Option.map_eq_some_iff.1 hz
  refine wpList_append_own (P := Tryd.prog) _ hgd x y 114 ho base 116 i0 z 5 48 Tryd.underlying114 hi hz h8 hby hzs (by decide) v es.length _ hs (World.ownsRow.alloc hown _) ⟨w0.heap.size, 0, none⟩ 1 1
    (EntV.cells ⟨k, d, t, a', s⟩) hy rfl (fun j x hx => ?_) ?_ (by unfold maxLen; omega) (by omega) (by simp; omega) ?_
  · rw [addr_add, Nat.zero_add, blk_cell (heap_alloc_new w0 _) j]
    rw [← hx]; simp [EntV.cells]
  · intro x hx
    simp only [EntV.cells, List.mem_cons, List.not_mem_nil, or_false] at hx
    rcases hx with rfl | rfl | rfl | rfl | rfl <;> rfl
  · intro v' w' h1 h2 h3
    refine h v' w' ?_ ?_
    · unfold RowE; rw [List.flatMap_append, List.length_append]; simpa using h1
    · exact ⟨h2.os, h2.tape, h2.output, Nat.le_trans (by simp) h2.size, fun k hk hne => (h2.block k (by simp; omega) hne).trans (Below.heap_alloc _ _ _ hk)⟩
end Go.Proofs.YtejmjjgbbojfbaaDoor
