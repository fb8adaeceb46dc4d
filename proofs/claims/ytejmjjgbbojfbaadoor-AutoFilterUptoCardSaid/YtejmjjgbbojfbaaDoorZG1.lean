/- Merged: Err, RdN. -/
import Derived.Test.YtejmjjgbbojfbaaDoorZLib
import Derived.Test.YtejmjjgbbojfbaaDoorProg
import Derived.Stop.LaidErr
import Derived.LaidEql
import Derived.Lay
import Derived.LaidHandle
import Derived.Deep.DeepHandedRow
/- Sentinel errors: what a row's list gives; a world for the witness. -/
namespace Go.Proofs.YtejmjjgbbojfbaaDoor
set_option linter.unusedVariables false
open Go.ChangeShapes Go.WideShapes Go.ChangeAt Go.RowKit

theorem nameES : "*" ++ "errors.errorString" = "*errors.errorString" := by decide
theorem rowES (u : TypeId) (h : Tryd.prog.typeName? 3 u = some "*errors.errorString") : u = 190 :=
  typeName_ptr_named (nm := "errors.errorString") (by rw [nameES]; kernel_rfl) (by kernel_rfl) (by decide) u (by rw [nameES]; exact h)
theorem cellsES : Tryd.prog.cellsOf 208 = 1 := by kernel_rfl
theorem cellsStr : Tryd.prog.cellsOf 9 = 1 := by kernel_rfl

/-- An error as errors.New makes it. -/
def errD (text : List UInt8) : DataW Unit := .iface "*errors.errorString" (.ptr (.agg [.lit (.string text)]))
/-- The variable g holds the sentinel at a. -/
def ErrAt (W : World) (g : Nat) (a : Addr) : Prop := W.cell? ⟨g, 0, none⟩ = some (.iface 190 (.pointer (some a))) ∧ ∃ c t, W.heap[a.block]? = some (.cells c t (0, 0))
def Laid (x : String × List UInt8) : String × DataW Unit := (x.1, errD x.2)
set_option maxRecDepth 100000 in
theorem laid_errs {W : World} : ∀ (L : List (String × List UInt8)) (ps : List MemPlace), DataW.LaidVars Tryd.prog W (L.map Laid) ps →
    (∀ b off, MemPlace.cell b off ∈ ps → (∃ c t, W.heap[b]? = some (.cells c t (0, 0))) ∧ ∀ u v, W.cell? ⟨b, off, none⟩ = some (.iface u v) → Value.okWide Tryd.prog W .any 0 u v) →
    (∀ x ∈ L, ∀ g, Tryd.prog.globalNamed x.1 = some g → (Tryd.prog.globals[g]?).map (·.type) = some 29) →
    ∃ al : List Addr, al.length = L.length ∧ (∀ (i : Nat) (x : String × List UInt8) (a : Addr), L[i]? = some x → al[i]? = some a → ∃ g, Tryd.prog.globalNamed x.1 = some g ∧ ErrAt W g a) ∧
      (al.map fun a => MemPlace.cell a.block a.off).Sublist ps
  | [], ps, h, _, _ => ⟨[], rfl, fun i x a hx => by simp at hx, by simp⟩
  | x :: L, ps, h, hrows, hty => by
    obtain ⟨g, t, cs, fuel, p, q, hg, ht, hv, hd, hq, rfl⟩ := h
    have e := hty x List.mem_cons_self g hg
    obtain rfl := Option.some.inj (e.symm.trans ht)
    obtain ⟨l0⟩ := cs
    have ok0 : ∀ u v, l0 = [.iface u v] → Value.okWide Tryd.prog W .any 0 u v := fun u v e => by
      subst e
      exact (hrows g 0 (by simp [MemPlace.row])).2 u v (by simpa using World.var?_cell hg hv 0)
    obtain ⟨a0, s0, rfl, hc0, hs0, hz0, rfl⟩ := errorString_of_trod Tryd.underlying29 rowES Tryd.underlying190 Tryd.underlying208 rfl rfl Tryd.underlying9 cellsES cellsStr hd ok0
    obtain ⟨al, hl, h1, h2⟩ := laid_errs L q hq (fun b off hm => hrows b off (List.mem_append_right _ hm)) (fun y hy => hty y (List.mem_cons_of_mem _ hy))
    have hb := (hrows a0.block a0.off (by simp [MemPlace.row])).1
    refine ⟨a0 :: al, by simp [hl], ?_, ?_⟩
    · intro i y a hy ha
      cases i with
      | zero =>
        simp at hy ha
        subst hy ha
        exact ⟨g, hg, by simpa using World.var?_cell hg hv 0, hb⟩
      | succ i => exact h1 i y a (by simpa using hy) (by simpa using ha)
    · have e1 : (MemPlace.row a0 1) = [MemPlace.cell a0.block a0.off] := by simp [MemPlace.row]
      rw [List.map_cons, e1]
      have : (MemPlace.cell a0.block a0.off :: al.map fun a => MemPlace.cell a.block a.off) = [] ++ [MemPlace.cell a0.block a0.off] ++ al.map fun a => MemPlace.cell a.block a.off := rfl
      rw [this]
      exact ((List.nil_sublist _).append (List.Sublist.refl _)).append h2
/-- The address of the error of number k. -/
def errAddr : List Nat → List Addr → Nat → Addr
  | n :: ns, a :: al, k => if k = n then a else errAddr ns al k
  | _, _, _ => ⟨0, 0, none⟩
/-- EA k is the sentinel of number k, for each of ks; all are different. -/
structure Errs (W : World) (EA : Nat → Addr) (L : List (Nat × String)) : Prop where
  at_ : ∀ x ∈ L, ∃ g, Tryd.prog.globalNamed x.2 = some g ∧ ErrAt W g (EA x.1)
  ne : ∀ x ∈ L, ∀ y ∈ L, x.1 ≠ y.1 → EA x.1 ≠ EA y.1
theorem errAddr_get : ∀ (ns : List Nat) (al : List Addr), ns.Nodup → al.length = ns.length → ∀ (i k : Nat), ns[i]? = some k → al[i]? = some (errAddr ns al k)
  | [], al, _, hl, i, k, h => by simp at h
  | n :: ns, [], _, hl, i, k, h => by simp at hl
  | n :: ns, a :: al, hn, hl, 0, k, h => by
    simp at h; subst h; simp [errAddr]
  | n :: ns, a :: al, hn, hl, i + 1, k, h => by
    rw [List.nodup_cons] at hn
    have hk : ns[i]? = some k := by simpa using h
    have hne : k ≠ n := fun e => hn.1 (by rw [← e]; exact List.mem_of_getElem? hk)
    rw [List.getElem?_cons_succ, errAddr, if_neg hne]
    exact errAddr_get ns al hn.2 (by simpa using hl) i k hk
set_option maxRecDepth 100000 in
/-- From a row's list of sentinels. -/
theorem errs_of_laid {W : World} (L : List (Nat × String × List UInt8)) (hn : (L.map (·.1)).Nodup) (h : laidMet Tryd.prog ((L.map (·.2)).map Laid) W)
    (hty : (L.all fun x => decide ((Tryd.prog.globalNamed x.2.1).bind (fun g => (Tryd.prog.globals[g]?).map (·.type)) = some 29)) = true) :
    ∃ EA : Nat → Addr, Errs W EA (L.map fun x => (x.1, x.2.1)) := by
  obtain ⟨ps, hv, hnd, hrows⟩ := h
  obtain ⟨al, hl, h1, h2⟩ := laid_errs (L.map (·.2)) ps hv hrows (fun x hx g hg => by
    obtain ⟨y, hy, rfl⟩ := List.mem_map.1 hx
    have := of_decide_eq_true (List.all_eq_true.1 hty y hy)
    rw [hg] at this; exact this)
  have hd := List.Nodup.sublist h2 hnd
  refine ⟨errAddr (L.map (·.1)) al, ?_, ?_⟩
  · intro x hx
    obtain ⟨y, hy, rfl⟩ := List.mem_map.1 hx
    obtain ⟨i, hi⟩ := List.getElem?_of_mem hy
    have hk : (L.map (·.1))[i]? = some y.1 := by rw [List.getElem?_map, hi]; rfl
    have ha := errAddr_get (L.map (·.1)) al hn (by rw [hl]; simp) i _ hk
    exact h1 i y.2 _ (by rw [List.getElem?_map, hi]; rfl) ha
  · intro x hx y hy hne e
    obtain ⟨x', hx', rfl⟩ := List.mem_map.1 hx
    obtain ⟨y', hy', rfl⟩ := List.mem_map.1 hy
    obtain ⟨i, hi⟩ := List.getElem?_of_mem hx'
    obtain ⟨j, hj⟩ := List.getElem?_of_mem hy'
    have ki : (L.map (·.1))[i]? = some x'.1 := by rw [List.getElem?_map, hi]; rfl
    have kj : (L.map (·.1))[j]? = some y'.1 := by rw [List.getElem?_map, hj]; rfl
    have ai := errAddr_get (L.map (·.1)) al hn (by rw [hl]; simp) i _ ki
    have aj := errAddr_get (L.map (·.1)) al hn (by rw [hl]; simp) j _ kj
    simp only at e
    rw [e] at ai
    have hij : i = j := by
      have bi : (al.map fun a => MemPlace.cell a.block a.off)[i]? = some (MemPlace.cell (errAddr (L.map (·.1)) al y'.1).block (errAddr (L.map (·.1)) al y'.1).off) := by rw [List.getElem?_map, ai]; rfl
      have bj : (al.map fun a => MemPlace.cell a.block a.off)[j]? = some (MemPlace.cell (errAddr (L.map (·.1)) al y'.1).block (errAddr (L.map (·.1)) al y'.1).off) := by rw [List.getElem?_map, aj]; rfl
      obtain ⟨li, bi⟩ := List.getElem?_eq_some_iff.1 bi
      obtain ⟨lj, bj⟩ := List.getElem?_eq_some_iff.1 bj
      rcases Nat.lt_trichotomy i j with h3 | h3 | h3
      · exact absurd (bi.trans bj.symm) (List.pairwise_iff_getElem.1 hd i j li lj h3)
      · exact h3
      · exact absurd (bj.trans bi.symm) (List.pairwise_iff_getElem.1 hd j i lj li h3)
    subst hij
    rw [ki] at kj
    exact hne (Option.some.inj kj)
/-- The value of the error of number k. -/
def errV (EA : Nat → Addr) (k : Nat) : Value := .iface 190 (.pointer (some (EA k)))
theorem Errs.cell {W : World} {EA : Nat → Addr} {L : List (Nat × String)} (h : Errs W EA L) {k : Nat} {n : String} {g : Nat} (hm : (k, n) ∈ L) (hg : Tryd.prog.globalNamed n = some g) : W.cell? ⟨g, 0, none⟩ = some (errV EA k) := by
  obtain ⟨g', hg', h1, _⟩ := h.at_ _ hm
  obtain rfl := Option.some.inj (hg.symm.trans hg')
  exact h1
/-- 'There is an input that fits', at a world that is shaped. -/
theorem witness_row_shaped {H : Type} {enc : TypeId × Value → H} {C : Checked} {os : Os} {f : FuncId} {fn : Func} {s : OpenSpec} {conds : List PathCond} {apart : Bool} {laid : List (String × DataW Unit)} (w0 : World) (args : Array Value) (hos : w0.os = os)
    (hsh : (w0.forCall (fun _ _ => 0) ⟨#[], args, []⟩).Shaped C.prog)
    (hok : Input.okWideB C.prog (w0.forCall (fun _ _ => 0) ⟨#[], args, []⟩) f ⟨#[], args, []⟩ = true)
    (hrow : s.preRow enc C.prog fn conds apart laid (w0.forCall (fun _ _ => 0) ⟨#[], args, []⟩).memory args) :
    ∃ (w : World) (tape : Tape) (i : Input), w.os = os ∧ (w.forCall tape i).Shaped C.prog ∧ i.vars = [] ∧ Input.okWide C.prog (w.forCall tape i) .any w.heap.size f i ∧
      s.preRow enc C.prog fn conds apart laid (w.forCall tape i).memory i.args ∧ ({} : Assume).holds C.prog (lone (Frame.enter C.prog f i.args .normal) [] (w.forCall tape i)) :=
  ⟨w0, fun _ _ => 0, ⟨#[], args, []⟩, hos, hsh, (Input.okWide_of_okWideB (base := 0) hok).1, (Input.okWide_of_okWideB hok).2, hrow, by
    simp only [Assume.holds]
    exact ⟨by simp, by simp, fun _ => Modest.zero, by simp, by simp⟩⟩
end Go.Proofs.YtejmjjgbbojfbaaDoor

/- Uvarints read from the front of a list of bytes. No program occurs here. -/
namespace Go.Proofs.YtejmjjgbbojfbaaDoor

/-- The uvarint at the front: its value and how many bytes it has, or the error's number (1: too short, 2: no uvarint); i bytes are read, of value v. -/
def rdU : Nat → Nat → List UInt8 → Except Nat (Nat × Nat)
  | _, _, [] => .error 1
  | i, v, x :: r =>
    if i = 9 ∧ 1 < x.toNat then .error 2
    else if 128 ≤ x.toNat then rdU (i + 1) (v + x.toNat % 128 * 2 ^ (7 * i)) r
    else if x.toNat = 0 ∧ 0 < i then .error 2
    else .ok (v + x.toNat % 128 * 2 ^ (7 * i), i + 1)
def getU (l : List UInt8) : Except Nat (Nat × Nat) := rdU 0 0 l

theorem ofNat_toNat (n : Nat) (h : n < 256) : (UInt8.ofNat n).toNat = n := by simp; omega
theorem rdU_uvar (t : List UInt8) : ∀ (n i v : Nat), i ≤ 9 → (i = 0 ∨ 0 < n) → n * 2 ^ (7 * i) < 2 ^ 64 → rdU i v (uvar n ++ t) = .ok (v + n * 2 ^ (7 * i), i + (uvar n).length) := by
  intro n
  induction n using Nat.strongRecOn with
  | _ n ih =>
    intro i v hi h0 hn
    have h9 : i = 9 → n < 2 := fun e => by subst e; omega
    by_cases h : n < 128
    · rw [uvar_small h, List.cons_append, List.nil_append, rdU, ofNat_toNat n (by omega), if_neg (by omega), if_neg (by omega), if_neg (by omega), Nat.mod_eq_of_lt h]; rfl
    · have hi8 : i ≤ 8 := by
        rcases Nat.lt_or_ge i 9 with h2 | h2
        · omega
        · have := h9 (by omega); omega
      have e2 : 2 ^ (7 * (i + 1)) = 2 ^ (7 * i) * 128 := by rw [show 7 * (i + 1) = 7 * i + 7 by omega, Nat.pow_add]
      have e3 : n / 128 * 2 ^ (7 * (i + 1)) + n % 128 * 2 ^ (7 * i) = n * 2 ^ (7 * i) := by
        rw [e2, Nat.mul_comm (2 ^ (7 * i)) 128, ← Nat.mul_assoc, ← Nat.add_mul]
        congr 1; omega
      rw [uvar_big h, List.cons_append, rdU, ofNat_toNat _ (by omega), if_neg (by omega), if_pos (by omega), ih (n / 128) (by omega) (i + 1) _ (by omega) (by omega) (by omega), show (128 + n % 128) % 128 = n % 128 by omega, List.length_cons]
      congr 2
      · omega
      · omega
theorem getU_uvar (n : Nat) (h : n < 2 ^ 64) (t : List UInt8) : getU (uvar n ++ t) = .ok (n, (uvar n).length) := by
  have := rdU_uvar t n 0 0 (by omega) (.inl rfl) (by simpa using h)
  unfold getU; rw [this]; simp
theorem uvar_ne (n : Nat) : uvar n ≠ [] := by rw [uvar]; split <;> simp
theorem rdU_cut : ∀ (n i v k : Nat), n * 2 ^ (7 * i) < 2 ^ 64 → k < (uvar n).length → rdU i v ((uvar n).take k) = .error 1 := by
  intro n
  induction n using Nat.strongRecOn with
  | _ n ih =>
    intro i v k hn hk
    cases k with
    | zero => rfl
    | succ k =>
      have h : ¬ n < 128 := fun h => by rw [uvar_small h] at hk; simp at hk
      have hi8 : i ≤ 8 := by
        rcases Nat.lt_or_ge i 9 with h2 | h2
        · omega
        · have h3 : 2 ^ 63 ≤ 2 ^ (7 * i) := Nat.pow_le_pow_right (by decide) (by omega)
          have h4 : 2 * 2 ^ 63 ≤ n * 2 ^ (7 * i) := Nat.mul_le_mul (by omega) h3
          omega
      have e2 : 2 ^ (7 * (i + 1)) = 2 ^ (7 * i) * 128 := by rw [show 7 * (i + 1) = 7 * i + 7 by omega, Nat.pow_add]
      have e3 : n / 128 * 2 ^ (7 * (i + 1)) ≤ n * 2 ^ (7 * i) := by
        rw [e2, Nat.mul_comm (2 ^ (7 * i)) 128, ← Nat.mul_assoc]
        exact Nat.mul_le_mul_right _ (by omega)
      rw [uvar_big h] at hk ⊢
      rw [List.take_succ_cons, rdU, ofNat_toNat _ (by omega), if_neg (by omega), if_pos (by omega)]
      exact ih (n / 128) (by omega) (i + 1) _ k (by omega) (by simpa using hk)
theorem getU_cut (n k : Nat) (h : n < 2 ^ 64) (hk : k < (uvar n).length) : getU ((uvar n).take k) = .error 1 := rdU_cut n 0 0 k (by simpa using h) hk
/-- What is read was written so. -/
theorem rdU_ok : ∀ (l : List UInt8) (i v u k : Nat), i ≤ 9 → rdU i v l = .ok (u, k) → ∃ n, u = v + n * 2 ^ (7 * i) ∧ n * 2 ^ (7 * i) < 2 ^ 64 ∧ (i = 0 ∨ 0 < n) ∧ k = i + (uvar n).length ∧ ∃ t, l = uvar n ++ t
  | [], _, _, _, _, _, h => by simp [rdU] at h
  | x :: r, i, v, u, k, hi, h => by
    have hx := x.toNat_lt
    rw [rdU] at h
    split at h
    · cases h
    · next h9 =>
      split at h
      · next h128 =>
        have hi8 : i ≤ 8 := by
          rcases Nat.lt_or_ge i 9 with h2 | h2
          · omega
          · exfalso; apply h9; omega
        obtain ⟨m, e1, e2, e3, e4, t, e5⟩ := rdU_ok r (i + 1) _ u k (by omega) h
        have p2 : 2 ^ (7 * (i + 1)) = 2 ^ (7 * i) * 128 := by rw [show 7 * (i + 1) = 7 * i + 7 by omega, Nat.pow_add]
        have hm : 0 < m := by omega
        have hb : ¬ (x.toNat % 128 + 128 * m < 128) := by omega
        have hdiv : (x.toNat % 128 + 128 * m) / 128 = m := by omega
        have hmod : (x.toNat % 128 + 128 * m) % 128 = x.toNat % 128 := by omega
        have e6 : (x.toNat % 128 + 128 * m) * 2 ^ (7 * i) = x.toNat % 128 * 2 ^ (7 * i) + m * 2 ^ (7 * (i + 1)) := by
          rw [p2, Nat.add_mul, Nat.mul_comm (2 ^ (7 * i)) 128, ← Nat.mul_assoc, Nat.mul_comm 128 m]
        have e7 : 2 ^ (7 * (i + 1)) ≤ 2 ^ 63 := Nat.pow_le_pow_right (by decide) (by omega)
        have e8 : (x.toNat % 128 + 128 * m) * 2 ^ (7 * i) < 2 ^ 64 := by
          -- m * P < 2^64 with P a power of two, a multiple of 128 * 2^(7i): so m * P + (P - 1) < 2^64
          have hd : 2 ^ (7 * (i + 1)) * 2 ^ (64 - 7 * (i + 1)) = 2 ^ 64 := by rw [← Nat.pow_add]; congr 1; omega
          have hm2 : m < 2 ^ (64 - 7 * (i + 1)) := by
            apply Nat.lt_of_mul_lt_mul_right (a := 2 ^ (7 * (i + 1)))
            rw [Nat.mul_comm (2 ^ (64 - 7 * (i + 1)))]; omega
          have hm3 : (m + 1) * 2 ^ (7 * (i + 1)) ≤ 2 ^ (64 - 7 * (i + 1)) * 2 ^ (7 * (i + 1)) := Nat.mul_le_mul_right _ hm2
          rw [Nat.mul_comm (2 ^ (64 - 7 * (i + 1))), hd, Nat.add_mul, Nat.one_mul] at hm3
          have hx2 : x.toNat % 128 * 2 ^ (7 * i) < 2 ^ (7 * (i + 1)) := by
            rw [p2, Nat.mul_comm]; exact Nat.mul_lt_mul_of_pos_left (Nat.mod_lt _ (by decide)) (Nat.two_pow_pos _)
          omega
        refine ⟨x.toNat % 128 + 128 * m, ?_, e8, .inr (by omega), ?_, t, ?_⟩
        · rw [e1, e6]; omega
        · rw [uvar_big hb, hdiv, List.length_cons, e4]; omega
        · rw [uvar_big hb, hdiv, hmod, e5, List.cons_append, show 128 + x.toNat % 128 = x.toNat by omega]
          simp
      · next h128 =>
        split at h
        · cases h
        · next h0 =>
          have hlt : x.toNat < 128 := by omega
          injection h with h
          injection h with h1 h2
          have hp : x.toNat * 2 ^ (7 * i) < 2 ^ 64 := by
            rcases Nat.lt_or_ge i 9 with h3 | h3
            · have : 2 ^ (7 * i) ≤ 2 ^ 56 := Nat.pow_le_pow_right (by decide) (by omega)
              have := Nat.mul_le_mul (show x.toNat ≤ 127 by omega) this
              omega
            · have e9 : i = 9 := by omega
              have hx1 : x.toNat ≤ 1 := by
                rcases Nat.lt_or_ge 1 x.toNat with h4 | h4
                · exfalso; exact h9 ⟨e9, h4⟩
                · exact h4
              subst e9
              have := Nat.mul_le_mul_right (2 ^ (7 * 9)) hx1
              omega
          refine ⟨x.toNat, by rw [← h1, Nat.mod_eq_of_lt hlt], hp, by omega, by rw [uvar_small hlt, ← h2]; rfl, r, by rw [uvar_small hlt]; simp⟩
theorem getU_ok {l : List UInt8} {u k : Nat} (h : getU l = .ok (u, k)) : u < 2 ^ 64 ∧ k = (uvar u).length ∧ ∃ t, l = uvar u ++ t := by
  obtain ⟨n, h1, h2, _, h3, t, h4⟩ := rdU_ok l 0 0 u k (by omega) h
  have e : u = n := by rw [h1]; simp
  subst e
  exact ⟨by simpa using h2, by omega, t, h4⟩
theorem rdU_err : ∀ (l : List UInt8) (i v n : Nat), rdU i v l = .error n → n = 1 ∨ n = 2
  | [], _, _, _, h => by simp [rdU] at h; omega
  | x :: r, i, v, n, h => by
    rw [rdU] at h
    split at h
    · injection h with h; omega
    · split at h
      · exact rdU_err r _ _ _ h
      · split at h
        · injection h with h; omega
        · cases h
theorem getU_err {l : List UInt8} {n : Nat} (h : getU l = .error n) : n = 1 ∨ n = 2 := rdU_err l 0 0 n h
theorem getU_len {l : List UInt8} {u k : Nat} (h : getU l = .ok (u, k)) : k ≤ l.length ∧ 1 ≤ k ∧ k ≤ 10 := by
  obtain ⟨h1, h2, t, h3⟩ := getU_ok h
  have := uvar_le u h1
  rw [h3, List.length_append]; omega
theorem getU_drop {l : List UInt8} {u k : Nat} (h : getU l = .ok (u, k)) : l = uvar u ++ l.drop k := by
  obtain ⟨h1, h2, t, h3⟩ := getU_ok h
  rw [h2]
  conv => rhs; rw [h3, List.drop_left]
  exact h3
end Go.Proofs.YtejmjjgbbojfbaaDoor
