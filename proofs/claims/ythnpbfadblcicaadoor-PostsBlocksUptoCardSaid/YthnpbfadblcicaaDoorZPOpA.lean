/- posts: what the walk of Open stands on. -/
import Derived.Test.YthnpbfadblcicaaDoorZHdA
import Derived.Test.YthnpbfadblcicaaDoorZWBytes
namespace Go.Proofs.YthnpbfadblcicaaDoor
set_option linter.unusedVariables false
open Go.ChangeShapes Go.WideShapes Go.ChangeAt Go.RowKit

def contB (acc : List (List PostV)) (o : Option (List (List PostV))) : Option (List (List PostV)) := o.map fun x => acc ++ x
def finB (n t : Nat) (S : List SkV) : Option (List (List PostV)) → Option OpenR
  | none => none
  | some bl => if totalV bl.flatten = t then some ⟨n, t, S, bl⟩ else none
theorem openV_heads {b : List UInt8} {n t : Nat} {S : List SkV} (h : headsV b = some (n, t, S)) : openV b = finB n t S (blkV b (-1) S) := by
  unfold openV; rw [h]; simp only
  cases blkV b (-1) S <;> rfl
theorem openV_heads0 {b : List UInt8} (h : headsV b = none) : openV b = none := by unfold openV; rw [h]
/-- What the entries are that heads tells. -/
structure HeadsOk (b : List UInt8) (n : Nat) (q : Nat) (R : List SkV) (S : List SkV) : Prop where
  eq : S = putAt q R
  sz : q + sizesV R = b.length
  dc : ∀ s ∈ R, 1 ≤ s.docs ∧ s.docs ≤ 16
  len : S.length ≤ 1000000001
theorem dcs_mem : ∀ (m n : Nat), m = (n + 15) / 16 → ∀ d ∈ dcs m n, 1 ≤ d ∧ d ≤ 16
  | 0, n, hm, d, hd => by simp [dcs] at hd
  | m + 1, n, hm, d, hd => by
    rw [dcs] at hd
    rcases List.mem_cons.1 hd with rfl | hd
    · omega
    · exact dcs_mem m (n - 16) (by omega) d hd
theorem dcs_length : ∀ (m n : Nat), (dcs m n).length = m
  | 0, _ => rfl
  | m + 1, n => by rw [dcs, List.length_cons, dcs_length]
theorem putAt_length : ∀ (q : Nat) (R : List SkV), (putAt q R).length = R.length
  | _, [] => rfl
  | q, s :: r => by rw [putAt, List.length_cons, putAt_length, List.length_cons]
theorem headsOk {b : List UInt8} {n t : Nat} {S : List SkV} (h : headsV b = some (n, t, S)) (hb : b.length ≤ 1000000000) : ∃ q R, HeadsOk b n q R S := by
  unfold headsV at h
  cases h1 : getU b with
  | error e => rw [h1] at h; cases h
  | ok y =>
    obtain ⟨n', j⟩ := y
    rw [h1] at h
    simp only at h
    split at h
    · cases h
    · next hn =>
      cases h2 : getU (b.drop j) with
      | error e => rw [h2] at h; cases h
      | ok y =>
        obtain ⟨t', j2⟩ := y
        rw [h2] at h
        simp only at h
        split at h
        · cases h
        · cases h3 : entV b.length ((n' + 15) / 16) (-1) n' ((b.drop j).drop j2) with
          | none => rw [h3] at h; cases h
          | some y =>
            obtain ⟨S0, l'⟩ := y
            rw [h3] at h
            simp only at h
            cases h4 : fillV b.length (b.length - l'.length) S0 with
            | none => rw [h4] at h; cases h
            | some S3 =>
              rw [h4] at h
              injection h with h
              injection h with e1 h
              injection h with e2 e3
              subst e1 e2 e3
              obtain ⟨f1, f2⟩ := fill_form h4
              obtain ⟨g1, g2⟩ := ent_form _ _ _ _ _ _ (by omega) h3
              refine ⟨_, S0, f1, f2, fun s hs => dcs_mem _ _ rfl s.docs (by rw [← g2]; exact List.mem_map_of_mem hs), ?_⟩
              rw [f1, putAt_length]
              have := congrArg List.length g2
              rw [List.length_map, dcs_length] at this
              omega
/-- What Open answers and leaves. -/
def OpenPost (w : World) (EA : Nat → Addr) (b : List UInt8) (e : Ending) (w' : World) : Prop :=
  (∀ r, openV b = some r → ∃ p im sv, e = .returned (.tuple #[.pointer (some ⟨p, 0, none⟩), .nilIface]) ∧ ListAt w' w.heap.size p im sv b r.n r.t r.sk) ∧
  (openV b = none → e = .returned (.tuple #[.pointer none, errV EA 10])) ∧ Below w.heap.size w w'
theorem OpenPost.no {w w' : World} {EA : Nat → Addr} {b : List UInt8} (h : openV b = none) (hb : Below w.heap.size w w') : OpenPost w EA b (.returned (.tuple #[.pointer none, errV EA 10])) w' :=
  ⟨fun r hr => (by rw [h] at hr; cases hr), fun _ => rfl, hb⟩
/-- The state of Open's loop. -/
structure OpS (w wr : World) (p : Nat) (im sv : Value) (b : List UInt8) (n t : Nat) (S : List SkV) : Prop where
  l : ListAt wr w.heap.size p im sv b n t S
  b : Below w.heap.size w wr
theorem OpS.step {w wr w2 : World} {p : Nat} {im sv : Value} {b : List UInt8} {n t : Nat} {S : List SkV} (h : OpS w wr p im sv b n t S) (hb : Below wr.heap.size wr w2) : OpS w w2 p im sv b n t S :=
  ⟨h.l.below hb (Nat.le_refl _), h.b.trans (hb.mono h.b.size)⟩
theorem OpS.drewN {w wr : World} {p : Nat} {im sv : Value} {b : List UInt8} {n t : Nat} {S : List SkV} (h : OpS w wr p im sv b n t S) (d : Nat) : OpS w (wr.drewN d) p im sv b n t S := ⟨h.l.drewN d, below_drewN h.b d⟩
end Go.Proofs.YthnpbfadblcicaaDoor
