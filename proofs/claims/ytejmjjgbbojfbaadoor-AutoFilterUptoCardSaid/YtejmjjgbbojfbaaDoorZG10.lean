/- Merged: EntEq, QuietR, TabU. -/
import Derived.Test.YtejmjjgbbojfbaaDoorZG8
import Derived.Laws.StructEq
import Derived.Sort.QuietThIn
import Derived.BigQuiet
import Derived.TacticsIn
import Derived.ProofKit
/- Entries compared. -/
namespace Go.Proofs.YtejmjjgbbojfbaaDoor
set_option linter.unusedVariables false
open Go.ChangeShapes Go.WideShapes Go.ChangeAt Go.RowKit
def entEq (x y : EntV) : Bool := (x.k.toList == y.k.toList) && ((x.d == y.d) && ((x.t == y.t) && ((x.a == y.a) && (x.s == y.s))))
theorem entEq_iff (x y : EntV) : entEq x y = true ↔ x = y := by
  unfold entEq
  rw [ba_list, ba_list]
  simp only [Bool.and_eq_true, beq_iff_eq]
  exact ⟨fun ⟨h0, h1, h2, h3, h4⟩ => EntV.ext2 h0 h1 h2 h3 h4, fun e => by subst e; exact ⟨rfl, rfl, rfl, rfl, rfl⟩⟩
theorem guard_ent : Tryd.prog.eqGuardType Tryd.prog.depth 116 = false := by kernel_rfl
theorem neq_ent (w : World) (x y : EntV) : (binOp .neq 116 (.agg #[.string x.k, .int .i64 x.d, .int .i64 x.t, .int .i64 x.a, .int .i64 x.s]) (.agg #[.string y.k, .int .i64 y.d, .int .i64 y.t, .int .i64 y.a, .int .i64 y.s])).run Tryd.prog w = .ok (.bool (!entEq x y)) w := by
  have hS : Tryd.prog.underlying 116 = some (.struct (Tryd.prog.fieldsOf 116)) := by kernel_rfl
  have hp : Tryd.prog.stoodInHeld 116 = false := by kernel_rfl
  rw [run_neq_struct, show (10000 : Nat) = 9998 + 1 + 1 from rfl, run_equalIn_agg w _ 116 _ _ hS hp]
  obtain ⟨k, d, t, a, s⟩ := x
  obtain ⟨k', d', t', a', s'⟩ := y
  unfold entEq
  simp [go_sem, Tryd.underlying116, Program.fieldsOf]
  repeat' split
  all_goals simp_all
theorem eql_ent (w : World) (x y : EntV) : (binOp .eql 116 (.agg #[.string x.k, .int .i64 x.d, .int .i64 x.t, .int .i64 x.a, .int .i64 x.s]) (.agg #[.string y.k, .int .i64 y.d, .int .i64 y.t, .int .i64 y.a, .int .i64 y.s])).run Tryd.prog w = .ok (.bool (entEq x y)) w := by
  have hS : Tryd.prog.underlying 116 = some (.struct (Tryd.prog.fieldsOf 116)) := by kernel_rfl
  have hp : Tryd.prog.stoodInHeld 116 = false := by kernel_rfl
  rw [run_eql_struct, show (10000 : Nat) = 9998 + 1 + 1 from rfl, run_equalIn_agg w _ 116 _ _ hS hp]
  obtain ⟨k, d, t, a, s⟩ := x
  obtain ⟨k', d', t', a', s'⟩ := y
  unfold entEq
  simp [go_sem, Tryd.underlying116, Program.fieldsOf]
  repeat' split
  all_goals simp_all
end Go.Proofs.YtejmjjgbbojfbaaDoor

/- A region that draws its order and only reads, inside a round of a range over a function: one walk in the text's order serves. No program occurs here. -/
namespace Go.Proofs.YtejmjjgbbojfbaaDoor
section
variable {F : Fence} {n : Nat} {P : Program} {ops : Array Oper} {md : Region.Mode} {C : World → Prop}
/-- No operation of the region defers. -/
def NoDefer (ops : Array Oper) : Prop := ∀ o ∈ ops.toList, ∀ c, o.op ≠ .defer c
def noDeferB (ops : Array Oper) : Bool := ops.all fun o => match o.op with | .defer _ => false | _ => true
theorem noDefer_of (h : noDeferB ops = true) : NoDefer ops := fun o ho c e => by
  have h1 := (Array.all_eq_true_iff_forall_mem.1 h) o (Array.mem_toList_iff.1 ho)
  rw [e] at h1
  cases h1
theorem quiet_op {o : Oper} {a : Act} {K : Act → Prop} {K' : Act → World → Prop} {Q' : Exit → Act → World → Prop} {w : World} (hd : ∀ c, o.op ≠ .defer c) (hw : C w) (h : ∀ a w', C w' → K a → K' a w')
    (ha : o.askedIn F P a C) (hh : o.quietIn F n P a C K) : o.wpIn F n P a w K' Q' := by
  obtain ⟨v, h1, h2⟩ := hh
  have h3 := h1 w hw
  unfold Oper.quietAtIn at h3
  unfold Oper.wpIn
  refine ⟨ha w hw, ?_⟩
  rw [Oper.semAt_eq _ _ _ hd]
  generalize (execOp a.eval o).run P w = r at *
  cases r with
  | halt x w' => simp only [Oper.quietUponIn] at h3
  | ok x w' =>
    cases x <;> simp only [Oper.quietUponIn] at h3 <;> simp only [Oper.uponIn]
    case value u =>
      rw [h3.1, h3.2]; exact h _ _ hw h2
    case skip =>
      rw [h3.1, ← h3.2]; exact h _ _ hw h2
    case enter f args =>
      rw [h3.1]
      exact ⟨h3.2.1, h3.2.2.mono fun e w'' ⟨he, hw''⟩ => by subst he; exact h _ _ hw'' h2⟩
theorem quiet_at {i : Nat} {a : Act} {K : Act → Prop} {K' : Act → World → Prop} {Q' : Exit → Act → World → Prop} {w : World} (hnd : NoDefer ops) (hC : C w) (h : ∀ a w', C w' → K a → K' a w')
    (hh : qOpIn F n P ops C i K a) : wpOpIn F n P ops Q' i K' a w := by
  unfold qOpIn at hh
  unfold wpOpIn
  split
  · next ho => simp only [ho] at hh; exact h _ _ hC hh
  · next o ho =>
    simp only [ho] at hh
    have hd := hnd o (by rw [Array.mem_toList_iff]; exact Array.mem_of_getElem? ho)
    split
    · next hw => simp only [hw, if_true] at hh; exact quiet_op hd hC h hh.1 hh.2
    · next hw => simp only [hw] at hh; exact ⟨hh.1 w hC, h _ _ hC hh.2⟩
theorem quiet_any {Q : Act → Prop} {Q' : Exit → Act → World → Prop} (hnd : NoDefer ops) (hQ : ∀ a w, C w → Q a → Q' .normal a w) : ∀ (fuel : Nat) (listed : Array Bool) (a : Act) (w : World), C w →
    wpAnyQIn F n P md ops C Q fuel listed a → wpAnyIn F n P md ops Q' fuel listed a w
  | 0, _, _, _, hw, h => ⟨h.1, hQ _ _ hw h.2⟩
  | fuel + 1, _, _, _, hw, h => ⟨fun h0 => hQ _ _ hw (h.1 h0), fun i hi => quiet_at hnd hw (fun a' w' hw' => quiet_any hnd hQ fuel _ a' w' hw') (h.2 i hi)⟩
/-- At the class 'w after some draws'. -/
theorem region_quiet_r {id : Nat} {Q : Exit → Act → World → Prop} {a : Act} {w : World} {l : List Oper} (hm : P.follows .mixedOrders = true) (hB : Region.lexB .any l.toArray = true) (hnd : noDeferB l.toArray = true)
    (h : wpQuietIn F n P l.toArray (fun w' => ∃ n, w' = w.drewN n) (fun a' => ∀ w', (∃ n, w' = w.drewN n) → Q .normal a' w') l a) : (Code.region id l.toArray true).wpIn F n P Q a w := by
  simp only [Region.lexB, Bool.and_eq_true] at hB
  refine wpIn_region_any hm (quiet_any (C := fun w' => ∃ n, w' = w.drewN n) (Q := fun a' => ∀ w', (∃ n, w' = w.drewN n) → Q .normal a' w') (noDefer_of hnd) (fun _ w' hw' h => h w' hw') _ _ _ _ ⟨1, rfl⟩ ?_)
  have := wpAnyQIn_lex (F := F) (n := n) (C := fun w' => ∃ n, w' = w.drewN n) (md := .any) hB.1 l 0 (Array.replicate l.toArray.size false) a (by simp) (by simpa using hB.2) h
  simpa using this
end
end Go.Proofs.YtejmjjgbbojfbaaDoor

/- auto, plain: a least table numbered in the order of first meeting is the only one. No program occurs here. -/
namespace Go.Proofs.YtejmjjgbbojfbaaDoor
set_option linter.unusedVariables false

/-- A table: how many states, which accept, where each goes by each byte. -/
structure Tab where
  n : Nat
  acc : Nat → Bool
  nx : Nat → Nat → Nat
def Tab.run (T : Tab) : Nat → List Nat → Nat
  | s, [] => s
  | s, c :: r => T.run (T.nx s c) r
theorem Tab.run_app (T : Tab) : ∀ (u v : List Nat) (s : Nat), T.run s (u ++ v) = T.run (T.run s u) v
  | [], v, s => rfl
  | c :: r, v, s => T.run_app r v (T.nx s c)
/-- How many states are met ahead of place p. -/
def Tab.met (T : Tab) : Nat → Nat
  | 0 => 1
  | p + 1 => if T.nx (p / 256) (p % 256) = T.met p then T.met p + 1 else T.met p
theorem Tab.met_le (T : Tab) : ∀ p, T.met p ≤ T.met (p + 1) := fun p => by rw [Tab.met]; split <;> omega
theorem Tab.met_mono (T : Tab) {p q : Nat} (h : p ≤ q) : T.met p ≤ T.met q := by
  induction h with
  | refl => exact Nat.le_refl _
  | step _ ih => exact Nat.le_trans ih (T.met_le _)
def Bytes (w : List Nat) : Prop := ∀ c ∈ w, c < 256
/-- The least table of a language, numbered as its states are met. -/
structure Canon (T : Tab) (L : List Nat → Bool) : Prop where
  rng : ∀ s c, s < T.n → c < 256 → T.nx s c < T.n
  lang : ∀ w, Bytes w → T.acc (T.run 0 w) = L w
  num : ∀ p, p < 256 * T.n → T.nx (p / 256) (p % 256) ≤ T.met p
  row : ∀ s, s < T.n → s < T.met (256 * s)
  all : T.met (256 * T.n) = T.n
  apart : ∀ s t, s < T.n → t < T.n → s ≠ t → ∃ w, Bytes w ∧ T.acc (T.run s w) ≠ T.acc (T.run t w)
theorem Bytes.append {u v : List Nat} (hu : Bytes u) (hv : Bytes v) : Bytes (u ++ v) := fun c hc => by
  rcases List.mem_append.1 hc with h | h
  · exact hu c h
  · exact hv c h
theorem Canon.same {T : Tab} {L : List Nat → Bool} (h : Canon T L) {s t : Nat} (hs : s < T.n) (ht : t < T.n) (he : ∀ w, Bytes w → T.acc (T.run s w) = T.acc (T.run t w)) : s = t := by
  by_cases e : s = t
  · exact e
  · obtain ⟨w, hw, h9⟩ := h.apart s t hs ht e
    exact absurd (he w hw) h9
theorem Canon.met_n {T : Tab} {L : List Nat → Bool} (h : Canon T L) {p : Nat} (hp : p ≤ 256 * T.n) : T.met p ≤ T.n := Nat.le_trans (T.met_mono hp) (Nat.le_of_eq h.all)
/-- Where a word leads that is led on: the residual. -/
theorem Canon.step_eq {T T2 : Tab} {L : List Nat → Bool} (h : Canon T L) (h2 : Canon T2 L) {s c t : Nat} {u v : List Nat} (hu : Bytes u) (hv : Bytes v) (hc : c < 256) (hs2 : s < T2.n) (ht : t < T2.n)
    (e1 : T.run 0 u = s) (e2 : T2.run 0 u = s) (f1 : T.run 0 v = t) (f2 : T2.run 0 v = t) (hst : T.nx s c = t) : T2.nx s c = t := by
  refine h2.same (h2.rng s c hs2 hc) ht fun w hw => ?_
  have hcs : Bytes [c] := fun x hx => by rw [List.mem_singleton.1 hx]; exact hc
  have a1 := h2.lang (u ++ ([c] ++ w)) (hu.append (hcs.append hw))
  have a2 := h2.lang (v ++ w) (hv.append hw)
  have b1 := h.lang (u ++ ([c] ++ w)) (hu.append (hcs.append hw))
  have b2 := h.lang (v ++ w) (hv.append hw)
  rw [Tab.run_app, e2] at a1
  rw [Tab.run_app, f2] at a2
  rw [Tab.run_app, e1] at b1
  rw [Tab.run_app, f1] at b2
  have a1' : T2.acc (T2.run (T2.nx s c) w) = L (u ++ ([c] ++ w)) := a1
  have b1' : T.acc (T.run (T.nx s c) w) = L (u ++ ([c] ++ w)) := b1
  rw [a1', a2, ← b1', ← b2, hst]
/-- What two tables have in common up to place p. -/
structure Alike (T T2 : Tab) (p : Nat) : Prop where
  met : T.met p = T2.met p
  nx : ∀ q, q < p → T.nx (q / 256) (q % 256) = T2.nx (q / 256) (q % 256)
  word : ∀ t, t < T.met p → ∃ u, Bytes u ∧ T.run 0 u = t ∧ T2.run 0 u = t
theorem alike {T T2 : Tab} {L : List Nat → Bool} (h : Canon T L) (h2 : Canon T2 L) : ∀ p, p ≤ 256 * T.n → p ≤ 256 * T2.n → Alike T T2 p
  | 0, _, _ => ⟨rfl, fun q hq => absurd hq (Nat.not_lt_zero _), fun t ht => ⟨[], fun c hc => (by cases hc), by
      have : t < 1 := ht
      obtain rfl : t = 0 := by omega
      exact ⟨rfl, rfl⟩⟩⟩
  | p + 1, hp, hp2 => by
    have ih := alike h h2 p (by omega) (by omega)
    obtain ⟨s, hs⟩ : ∃ s, p / 256 = s := ⟨_, rfl⟩
    obtain ⟨c, hc⟩ : ∃ c, p % 256 = c := ⟨_, rfl⟩
    have hsn : s < T.n := by omega
    have hsn2 : s < T2.n := by omega
    have hcb : c < 256 := by omega
    have hsm : s < T.met p := Nat.lt_of_lt_of_le (h.row s hsn) (T.met_mono (by omega))
    obtain ⟨u, hu, e1, e2⟩ := ih.word s hsm
    have n1 := h.num p (by omega)
    have n2 := h2.num p (by omega)
    rw [hs, hc] at n1 n2
    have hm1 := h.met_n (p := p) (by omega)
    have hm2 := h2.met_n (p := p) (by omega)
    have hnx : T.nx s c = T2.nx s c := by
      by_cases g1 : T.nx s c < T.met p
      · obtain ⟨v, hv, f1, f2⟩ := ih.word _ g1
        exact (h.step_eq h2 hu hv hcb hsn2 (by have := ih.met; omega) e1 e2 f1 f2 rfl).symm
      · by_cases g2 : T2.nx s c < T2.met p
        · obtain ⟨v, hv, f1, f2⟩ := ih.word _ (by rw [ih.met]; exact g2)
          exact h2.step_eq h hu hv hcb hsn (by have := ih.met; omega) e2 e1 f2 f1 rfl
        · have := ih.met; omega
    have hmet : T.met (p + 1) = T2.met (p + 1) := by rw [Tab.met, Tab.met, hs, hc, hnx, ih.met]
    refine ⟨hmet, fun q hq => ?_, fun t ht => ?_⟩
    · by_cases e : q = p
      · subst e; rw [hs, hc]; exact hnx
      · exact ih.nx q (by omega)
    · rw [Tab.met, hs, hc] at ht
      by_cases g : t < T.met p
      · exact ih.word t g
      · have hcs : Bytes [c] := fun x hx => by rw [List.mem_singleton.1 hx]; exact hcb
        split at ht
        · next he =>
          refine ⟨u ++ [c], hu.append hcs, ?_, ?_⟩
          · rw [Tab.run_app, e1]; show T.nx s c = t; omega
          · rw [Tab.run_app, e2]; show T2.nx s c = t; omega
        · omega
/-- There is but one. -/
theorem canon_one {T T2 : Tab} {L : List Nat → Bool} (h : Canon T L) (h2 : Canon T2 L) : T.n = T2.n ∧ (∀ s, s < T.n → T.acc s = T2.acc s) ∧ ∀ s c, s < T.n → c < 256 → T.nx s c = T2.nx s c := by
  have hn : T.n = T2.n := by
    rcases Nat.lt_trichotomy T.n T2.n with g | g | g
    · have ha := (alike h h2 (256 * T.n) (Nat.le_refl _) (by omega)).met
      have := h2.row T.n g
      have := h.all
      omega
    · exact g
    · have ha := (alike h h2 (256 * T2.n) (by omega) (Nat.le_refl _)).met
      have := h.row T2.n g
      have := h2.all
      omega
  have ha := alike h h2 (256 * T.n) (Nat.le_refl _) (by omega)
  refine ⟨hn, fun s hs => ?_, fun s c hs hc => ?_⟩
  · obtain ⟨u, hu, e1, e2⟩ := ha.word s (by rw [h.all]; exact hs)
    have a1 := h.lang u hu
    have a2 := h2.lang u hu
    rw [e1] at a1
    rw [e2] at a2
    rw [a1, a2]
  · have := ha.nx (256 * s + c) (by omega)
    rwa [show (256 * s + c) / 256 = s by omega, show (256 * s + c) % 256 = c by omega] at this
end Go.Proofs.YtejmjjgbbojfbaaDoor
