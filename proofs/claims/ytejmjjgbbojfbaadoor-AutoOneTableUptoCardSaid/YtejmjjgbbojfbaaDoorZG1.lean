/- Merged: Err, TabU. -/
import Derived.Test.YtejmjjgbbojfbaaDoorZLib
import Derived.Test.YtejmjjgbbojfbaaDoorProg
import Derived.Stop.LaidErr
import Derived.LaidEql
import Derived.Lay
import Derived.LaidHandle
import Derived.Deep.DeepHandedRow
import Derived.ProofKit
/- Sentinel errors: what a row's list gives; a world for the witness. -/
namespace Go.Proofs.YtejmjjgbbojfbaaDoor
set_option linter.unusedVariables false
open Go.ChangeShapes Go.WideShapes Go.ChangeAt Go.RowKit

theorem nameES : "*" ++ "errors.errorString" = "*errors.errorString" := by decide
theorem rowES (u : TypeId) (h : Tryd.prog.typeName? 3 u = some "*errors.errorString") : u = 190 :=
  typeName_ptr_named (nm := "errors.errorString") (by rw [nameES]; kernel_rfl) (by kernel_rfl) (by decide) u (by rw [nameES]; exact h)
theorem cellsES : Tryd.prog.cellsOf 208 = 1 := by kernel_rfl
theorem cellsStr : Tryd.prog.cellsOf 9 = 1 := by kernel_rfl

/-- An error as errors.New makes it. -/
def errD (text : List UInt8) : DataW Unit := .iface "*errors.errorString" (.ptr (.agg [.lit (.string text)]))
/-- The variable g holds the sentinel at a. -/
def ErrAt (W : World) (g : Nat) (a : Addr) : Prop := W.cell? ⟨g, 0, none⟩ = some (.iface 190 (.pointer (some a))) ∧ ∃ c t, W.heap[a.block]? = some (.cells c t (0, 0))
def Laid (x : String × List UInt8) : String × DataW Unit := (x.1, errD x.2)
set_option maxRecDepth 100000 in
theorem laid_errs {W : World} : ∀ (L : List (String × List UInt8)) (ps : List MemPlace), DataW.LaidVars Tryd.prog W (L.map Laid) ps →
    (∀ b off, MemPlace.cell b off ∈ ps → (∃ c t, W.heap[b]? = some (.cells c t (0, 0))) ∧ ∀ u v, W.cell? ⟨b, off, none⟩ = some (.iface u v) → Value.okWide Tryd.prog W .any 0 u v) →
    (∀ x ∈ L, ∀ g, Tryd.prog.globalNamed x.1 = some g → (Tryd.prog.globals[g]?).map (·.type) = some 29) →
    ∃ al : List Addr, al.length = L.length ∧ (∀ (i : Nat) (x : String × List UInt8) (a : Addr), L[i]? = some x → al[i]? = some a → ∃ g, Tryd.prog.globalNamed x.1 = some g ∧ ErrAt W g a) ∧
      (al.map fun a => MemPlace.cell a.block a.off).Sublist ps
  | [], ps, h, _, _ => ⟨[], rfl, fun i x a hx => by simp at hx, by simp⟩
  | x :: L, ps, h, hrows, hty => by
    obtain ⟨g, t, cs, fuel, p, q, hg, ht, hv, hd, hq, rfl⟩ := h
    have e := hty x List.mem_cons_self g hg
    obtain rfl := Option.some.inj (e.symm.trans ht)
    obtain ⟨l0⟩ := cs
    have ok0 : ∀ u v, l0 = [.iface u v] → Value.okWide Tryd.prog W .any 0 u v := fun u v e => by
      subst e
      exact (hrows g 0 (by simp [MemPlace.row])).2 u v (by simpa using World.var?_cell hg hv 0)
    obtain ⟨a0, s0, rfl, hc0, hs0, hz0, rfl⟩ := errorString_of_trod Tryd.underlying29 rowES Tryd.underlying190 Tryd.underlying208 rfl rfl Tryd.underlying9 cellsES cellsStr hd ok0
    obtain ⟨al, hl, h1, h2⟩ := laid_errs L q hq (fun b off hm => hrows b off (List.mem_append_right _ hm)) (fun y hy => hty y (List.mem_cons_of_mem _ hy))
    have hb := (hrows a0.block a0.off (by simp [MemPlace.row])).1
    refine ⟨a0 :: al, by simp [hl], ?_, ?_⟩
    · intro i y a hy ha
      cases i with
      | zero =>
        simp at hy ha
        subst hy ha
        exact ⟨g, hg, by simpa using World.var?_cell hg hv 0, hb⟩
      | succ i => exact h1 i y a (by simpa using hy) (by simpa using ha)
    · have e1 : (MemPlace.row a0 1) = [MemPlace.cell a0.block a0.off] := by simp [MemPlace.row]
      rw [List.map_cons, e1]
      have : (MemPlace.cell a0.block a0.off :: al.map fun a => MemPlace.cell a.block a.off) = [] ++ [MemPlace.cell a0.block a0.off] ++ al.map fun a => MemPlace.cell a.block a.off := rfl
      rw [this]
      exact ((List.nil_sublist _).append (List.Sublist.refl _)).append h2
/-- The address of the error of number k. -/
def errAddr : List Nat → List Addr → Nat → Addr
  | n :: ns, a :: al, k => if k = n then a else errAddr ns al k
  | _, _, _ => ⟨0, 0, none⟩
/-- EA k is the sentinel of number k, for each of ks; all are different. -/
structure Errs (W : World) (EA : Nat → Addr) (L : List (Nat × String)) : Prop where
  at_ : ∀ x ∈ L, ∃ g, Tryd.prog.globalNamed x.2 = some g ∧ ErrAt W g (EA x.1)
  ne : ∀ x ∈ L, ∀ y ∈ L, x.1 ≠ y.1 → EA x.1 ≠ EA y.1
theorem errAddr_get : ∀ (ns : List Nat) (al : List Addr), ns.Nodup → al.length = ns.length → ∀ (i k : Nat), ns[i]? = some k → al[i]? = some (errAddr ns al k)
  | [], al, _, hl, i, k, h => by simp at h
  | n :: ns, [], _, hl, i, k, h => by simp at hl
  | n :: ns, a :: al, hn, hl, 0, k, h => by
    simp at h; subst h; simp [errAddr]
  | n :: ns, a :: al, hn, hl, i + 1, k, h => by
    rw [List.nodup_cons] at hn
    have hk : ns[i]? = some k := by simpa using h
    have hne : k ≠ n := fun e => hn.1 (by rw [← e]; exact List.mem_of_getElem? hk)
    rw [List.getElem?_cons_succ, errAddr, if_neg hne]
    exact errAddr_get ns al hn.2 (by simpa using hl) i k hk
set_option maxRecDepth 100000 in
/-- From a row's list of sentinels. -/
theorem errs_of_laid {W : World} (L : List (Nat × String × List UInt8)) (hn : (L.map (·.1)).Nodup) (h : laidMet Tryd.prog ((L.map (·.2)).map Laid) W)
    (hty : (L.all fun x => decide ((Tryd.prog.globalNamed x.2.1).bind (fun g => (Tryd.prog.globals[g]?).map (·.type)) = some 29)) = true) :
    ∃ EA : Nat → Addr, Errs W EA (L.map fun x => (x.1, x.2.1)) := by
  obtain ⟨ps, hv, hnd, hrows⟩ := h
  obtain ⟨al, hl, h1, h2⟩ := laid_errs (L.map (·.2)) ps hv hrows (fun x hx g hg => by
    obtain ⟨y, hy, rfl⟩ := List.mem_map.1 hx
    have := of_decide_eq_true (List.all_eq_true.1 hty y hy)
    rw [hg] at this; exact this)
  have hd := List.Nodup.sublist h2 hnd
  refine ⟨errAddr (L.map (·.1)) al, ?_, ?_⟩
  · intro x hx
    obtain ⟨y, hy, rfl⟩ := List.mem_map.1 hx
    obtain ⟨i, hi⟩ := List.getElem?_of_mem hy
    have hk : (L.map (·.1))[i]? = some y.1 := by rw [List.getElem?_map, hi]; rfl
    have ha := errAddr_get (L.map (·.1)) al hn (by rw [hl]; simp) i _ hk
    exact h1 i y.2 _ (by rw [List.getElem?_map, hi]; rfl) ha
  · intro x hx y hy hne e
    obtain ⟨x', hx', rfl⟩ := List.mem_map.1 hx
    obtain ⟨y', hy', rfl⟩ := List.mem_map.1 hy
    obtain ⟨i, hi⟩ := List.getElem?_of_mem hx'
    obtain ⟨j, hj⟩ := List.getElem?_of_mem hy'
    have ki : (L.map (·.1))[i]? = some x'.1 := by rw [List.getElem?_map, hi]; rfl
    have kj : (L.map (·.1))[j]? = some y'.1 := by rw [List.getElem?_map, hj]; rfl
    have ai := errAddr_get (L.map (·.1)) al hn (by rw [hl]; simp) i _ ki
    have aj := errAddr_get (L.map (·.1)) al hn (by rw [hl]; simp) j _ kj
    simp only at e
    rw [e] at ai
    have hij : i = j := by
      have bi : (al.map fun a => MemPlace.cell a.block a.off)[i]? = some (MemPlace.cell (errAddr (L.map (·.1)) al y'.1).block (errAddr (L.map (·.1)) al y'.1).off) := by rw [List.getElem?_map, ai]; rfl
      have bj : (al.map fun a => MemPlace.cell a.block a.off)[j]? = some (MemPlace.cell (errAddr (L.map (·.1)) al y'.1).block (errAddr (L.map (·.1)) al y'.1).off) := by rw [List.getElem?_map, aj]; rfl
      obtain ⟨li, bi⟩ := List.getElem?_eq_some_iff.1 bi
      obtain ⟨lj, bj⟩ := List.getElem?_eq_some_iff.1 bj
      rcases Nat.lt_trichotomy i j with h3 | h3 | h3
      · exact absurd (bi.trans bj.symm) (List.pairwise_iff_getElem.1 hd i j li lj h3)
      · exact h3
      · exact absurd (bj.trans bi.symm) (List.pairwise_iff_getElem.1 hd j i lj li h3)
    subst hij
    rw [ki] at kj
    exact hne (Option.some.inj kj)
/-- The value of the error of number k. -/
def errV (EA : Nat → Addr) (k : Nat) : Value := .iface 190 (.pointer (some (EA k)))
theorem Errs.cell {W : World} {EA : Nat → Addr} {L : List (Nat × String)} (h : Errs W EA L) {k : Nat} {n : String} {g : Nat} (hm : (k, n) ∈ L) (hg : Tryd.prog.globalNamed n = some g) : W.cell? ⟨g, 0, none⟩ = some (errV EA k) := by
  obtain ⟨g', hg', h1, _⟩ := h.at_ _ hm
  obtain rfl := Option.some.inj (hg.symm.trans hg')
  exact h1
/-- 'There is an input that fits', at a world that is shaped. -/
theorem witness_row_shaped {H : Type} {enc : TypeId × Value → H} {C : Checked} {os : Os} {f : FuncId} {fn : Func} {s : OpenSpec} {conds : List PathCond} {apart : Bool} {laid : List (String × DataW Unit)} (w0 : World) (args : Array Value) (hos : w0.os = os)
    (hsh : (w0.forCall (fun _ _ => 0) ⟨#[], args, []⟩).Shaped C.prog)
    (hok : Input.okWideB C.prog (w0.forCall (fun _ _ => 0) ⟨#[], args, []⟩) f ⟨#[], args, []⟩ = true)
    (hrow : s.preRow enc C.prog fn conds apart laid (w0.forCall (fun _ _ => 0) ⟨#[], args, []⟩).memory args) :
    ∃ (w : World) (tape : Tape) (i : Input), w.os = os ∧ (w.forCall tape i).Shaped C.prog ∧ i.vars = [] ∧ Input.okWide C.prog (w.forCall tape i) .any w.heap.size f i ∧
      s.preRow enc C.prog fn conds apart laid (w.forCall tape i).memory i.args ∧ ({} : Assume).holds C.prog (lone (Frame.enter C.prog f i.args .normal) [] (w.forCall tape i)) :=
  ⟨w0, fun _ _ => 0, ⟨#[], args, []⟩, hos, hsh, (Input.okWide_of_okWideB (base := 0) hok).1, (Input.okWide_of_okWideB hok).2, hrow, by
    simp only [Assume.holds]
    exact ⟨by simp, by simp, fun _ => Modest.zero, by simp, by simp⟩⟩
end Go.Proofs.YtejmjjgbbojfbaaDoor

/- auto, plain: a least table numbered in the order of first meeting is the only one. No program occurs here. -/
namespace Go.Proofs.YtejmjjgbbojfbaaDoor
set_option linter.unusedVariables false

/-- A table: how many states, which accept, where each goes by each byte. -/
structure Tab where
  n : Nat
  acc : Nat → Bool
  nx : Nat → Nat → Nat
def Tab.run (T : Tab) : Nat → List Nat → Nat
  | s, [] => s
  | s, c :: r => T.run (T.nx s c) r
theorem Tab.run_app (T : Tab) : ∀ (u v : List Nat) (s : Nat), T.run s (u ++ v) = T.run (T.run s u) v
  | [], v, s => rfl
  | c :: r, v, s => T.run_app r v (T.nx s c)
/-- How many states are met ahead of place p. -/
def Tab.met (T : Tab) : Nat → Nat
  | 0 => 1
  | p + 1 => if T.nx (p / 256) (p % 256) = T.met p then T.met p + 1 else T.met p
theorem Tab.met_le (T : Tab) : ∀ p, T.met p ≤ T.met (p + 1) := fun p => by rw [Tab.met]; split <;> omega
theorem Tab.met_mono (T : Tab) {p q : Nat} (h : p ≤ q) : T.met p ≤ T.met q := by
  induction h with
  | refl => exact Nat.le_refl _
  | step _ ih => exact Nat.le_trans ih (T.met_le _)
def Bytes (w : List Nat) : Prop := ∀ c ∈ w, c < 256
/-- The least table of a language, numbered as its states are met. -/
structure Canon (T : Tab) (L : List Nat → Bool) : Prop where
  rng : ∀ s c, s < T.n → c < 256 → T.nx s c < T.n
  lang : ∀ w, Bytes w → T.acc (T.run 0 w) = L w
  num : ∀ p, p < 256 * T.n → T.nx (p / 256) (p % 256) ≤ T.met p
  row : ∀ s, s < T.n → s < T.met (256 * s)
  all : T.met (256 * T.n) = T.n
  apart : ∀ s t, s < T.n → t < T.n → s ≠ t → ∃ w, Bytes w ∧ T.acc (T.run s w) ≠ T.acc (T.run t w)
theorem Bytes.append {u v : List Nat} (hu : Bytes u) (hv : Bytes v) : Bytes (u ++ v) := fun c hc => by
  rcases List.mem_append.1 hc with h | h
  · exact hu c h
  · exact hv c h
theorem Canon.same {T : Tab} {L : List Nat → Bool} (h : Canon T L) {s t : Nat} (hs : s < T.n) (ht : t < T.n) (he : ∀ w, Bytes w → T.acc (T.run s w) = T.acc (T.run t w)) : s = t := by
  by_cases e : s = t
  · exact e
  · obtain ⟨w, hw, h9⟩ := h.apart s t hs ht e
    exact absurd (he w hw) h9
theorem Canon.met_n {T : Tab} {L : List Nat → Bool} (h : Canon T L) {p : Nat} (hp : p ≤ 256 * T.n) : T.met p ≤ T.n := Nat.le_trans (T.met_mono hp) (Nat.le_of_eq h.all)
/-- Where a word leads that is led on: the residual. -/
theorem Canon.step_eq {T T2 : Tab} {L : List Nat → Bool} (h : Canon T L) (h2 : Canon T2 L) {s c t : Nat} {u v : List Nat} (hu : Bytes u) (hv : Bytes v) (hc : c < 256) (hs2 : s < T2.n) (ht : t < T2.n)
    (e1 : T.run 0 u = s) (e2 : T2.run 0 u = s) (f1 : T.run 0 v = t) (f2 : T2.run 0 v = t) (hst : T.nx s c = t) : T2.nx s c = t := by
  refine h2.same (h2.rng s c hs2 hc) ht fun w hw => ?_
  have hcs : Bytes [c] := fun x hx => by rw [List.mem_singleton.1 hx]; exact hc
  have a1 := h2.lang (u ++ ([c] ++ w)) (hu.append (hcs.append hw))
  have a2 := h2.lang (v ++ w) (hv.append hw)
  have b1 := h.lang (u ++ ([c] ++ w)) (hu.append (hcs.append hw))
  have b2 := h.lang (v ++ w) (hv.append hw)
  rw [Tab.run_app, e2] at a1
  rw [Tab.run_app, f2] at a2
  rw [Tab.run_app, e1] at b1
  rw [Tab.run_app, f1] at b2
  have a1' : T2.acc (T2.run (T2.nx s c) w) = L (u ++ ([c] ++ w)) := a1
  have b1' : T.acc (T.run (T.nx s c) w) = L (u ++ ([c] ++ w)) := b1
  rw [a1', a2, ← b1', ← b2, hst]
/-- What two tables have in common up to place p. -/
structure Alike (T T2 : Tab) (p : Nat) : Prop where
  met : T.met p = T2.met p
  nx : ∀ q, q < p → T.nx (q / 256) (q % 256) = T2.nx (q / 256) (q % 256)
  word : ∀ t, t < T.met p → ∃ u, Bytes u ∧ T.run 0 u = t ∧ T2.run 0 u = t
theorem alike {T T2 : Tab} {L : List Nat → Bool} (h : Canon T L) (h2 : Canon T2 L) : ∀ p, p ≤ 256 * T.n → p ≤ 256 * T2.n → Alike T T2 p
  | 0, _, _ => ⟨rfl, fun q hq => absurd hq (Nat.not_lt_zero _), fun t ht => ⟨[], fun c hc => (by cases hc), by
      have : t < 1 := ht
      obtain rfl : t = 0 := by omega
      exact ⟨rfl, rfl⟩⟩⟩
  | p + 1, hp, hp2 => by
    have ih := alike h h2 p (by omega) (by omega)
    obtain ⟨s, hs⟩ : ∃ s, p / 256 = s := ⟨_, rfl⟩
    obtain ⟨c, hc⟩ : ∃ c, p % 256 = c := ⟨_, rfl⟩
    have hsn : s < T.n := by omega
    have hsn2 : s < T2.n := by omega
    have hcb : c < 256 := by omega
    have hsm : s < T.met p := Nat.lt_of_lt_of_le (h.row s hsn) (T.met_mono (by omega))
    obtain ⟨u, hu, e1, e2⟩ := ih.word s hsm
    have n1 := h.num p (by omega)
    have n2 := h2.num p (by omega)
    rw [hs, hc] at n1 n2
    have hm1 := h.met_n (p := p) (by omega)
    have hm2 := h2.met_n (p := p) (by omega)
    have hnx : T.nx s c = T2.nx s c := by
      by_cases g1 : T.nx s c < T.met p
      · obtain ⟨v, hv, f1, f2⟩ := ih.word _ g1
        exact (h.step_eq h2 hu hv hcb hsn2 (by have := ih.met; omega) e1 e2 f1 f2 rfl).symm
      · by_cases g2 : T2.nx s c < T2.met p
        · obtain ⟨v, hv, f1, f2⟩ := ih.word _ (by rw [ih.met]; exact g2)
          exact h2.step_eq h hu hv hcb hsn (by have := ih.met; omega) e2 e1 f2 f1 rfl
        · have := ih.met; omega
    have hmet : T.met (p + 1) = T2.met (p + 1) := by rw [Tab.met, Tab.met, hs, hc, hnx, ih.met]
    refine ⟨hmet, fun q hq => ?_, fun t ht => ?_⟩
    · by_cases e : q = p
      · subst e; rw [hs, hc]; exact hnx
      · exact ih.nx q (by omega)
    · rw [Tab.met, hs, hc] at ht
      by_cases g : t < T.met p
      · exact ih.word t g
      · have hcs : Bytes [c] := fun x hx => by rw [List.mem_singleton.1 hx]; exact hcb
        split at ht
        · next he =>
          refine ⟨u ++ [c], hu.append hcs, ?_, ?_⟩
          · rw [Tab.run_app, e1]; show T.nx s c = t; omega
          · rw [Tab.run_app, e2]; show T2.nx s c = t; omega
        · omega
/-- There is but one. -/
theorem canon_one {T T2 : Tab} {L : List Nat → Bool} (h : Canon T L) (h2 : Canon T2 L) : T.n = T2.n ∧ (∀ s, s < T.n → T.acc s = T2.acc s) ∧ ∀ s c, s < T.n → c < 256 → T.nx s c = T2.nx s c := by
  have hn : T.n = T2.n := by
    rcases Nat.lt_trichotomy T.n T2.n with g | g | g
    · have ha := (alike h h2 (256 * T.n) (Nat.le_refl _) (by omega)).met
      have := h2.row T.n g
      have := h.all
      omega
    · exact g
    · have ha := (alike h h2 (256 * T2.n) (by omega) (Nat.le_refl _)).met
      have := h.row T2.n g
      have := h2.all
      omega
  have ha := alike h h2 (256 * T.n) (Nat.le_refl _) (by omega)
  refine ⟨hn, fun s hs => ?_, fun s c hs hc => ?_⟩
  · obtain ⟨u, hu, e1, e2⟩ := ha.word s (by rw [h.all]; exact hs)
    have a1 := h.lang u hu
    have a2 := h2.lang u hu
    rw [e1] at a1
    rw [e2] at a2
    rw [a1, a2]
  · have := ha.nx (256 * s + c) (by omega)
    rwa [show (256 * s + c) / 256 = s by omega, show (256 * s + c) % 256 = c by omega] at this
end Go.Proofs.YtejmjjgbbojfbaaDoor
