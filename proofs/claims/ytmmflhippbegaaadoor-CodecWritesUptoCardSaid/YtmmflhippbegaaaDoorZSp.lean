/- Two Writers, a list of ints and a list of bytes, all apart. -/
import Derived.Test.YtmmflhippbegaaaDoorZPutL
import Derived.Test.YtmmflhippbegaaaDoorZLives
import Derived.Test.YtmmflhippbegaaaDoorZApG
namespace Go.Proofs.YtmmflhippbegaaaDoor
set_option linter.unusedVariables false
open Go.ChangeShapes Go.WideShapes Go.ChangeAt Go.RowKit

/-- A list of other elements lies in no block of a Writer. -/
theorem Wr.offOwn {w : World} {base p b : Nat} {v x : Value} {bs : List UInt8} {t : TypeId} {xs : List Value} (h : Wr w base p v bs) (ho : Own w b t x xs) (h1 : t ≠ 87) (h2 : 5 ≠ t) : ∀ k, x.ownBlock = some k → ¬ WrB p v k := by
  rintro k hk (rfl | hv)
  · exact ho.ne_type h.blk h1 hk
  · exact own_types h.own ho h2 hv hk
theorem Wr.hoff {w : World} {base p b : Nat} {v : Value} {a : Option Addr} {n c m : Nat} {bs : List UInt8} {t : TypeId} {xs : List Value} (h : Wr w base p v bs) (ho : Own w b t (.slice a n c) xs) (h1 : t ≠ 87) (h2 : 5 ≠ t) : 0 < m → ∀ b o, a = some ⟨b, o, none⟩ → ¬ WrB p v b :=
  fun _ b o e => by subst e; exact h.offOwn ho h1 h2 b rfl
/-- What lay apart from a Writer lies apart from it behind a write. -/
theorem dis_fresh {G : Nat → Prop} {w w' : World} {p : Nat} {v v' : Value} (hd : ∀ k, G k → ¬ WrB p v k) (hG : ∀ k, G k → k < w.heap.size) (hw : Wrote w w' p v v') : ∀ k, G k → ¬ WrB p v' k := by
  rintro k hk (rfl | hv)
  · exact hd _ hk (.inl rfl)
  · rcases hw.fresh k hv with h | h
    · exact hd k hk (.inr h)
    · have := hG k hk; omega
theorem pckB_le {l : List Nat} (h : ∀ x ∈ l, x < 2 ^ 63) : (pckB l).length ≤ 20 + 8 * l.length ∨ 9223372036854775807 < l.length := by
  by_cases hl : 9223372036854775807 < l.length
  · exact .inr hl
  · refine .inl ?_
    have hu := (uvar_le l.length (by omega)).2
    unfold pckB
    rw [List.length_append]
    split
    · simp; omega
    · have hw := widL_63 h
      unfold packB
      rw [List.length_cons, leB_length]
      have : l.length * widL l ≤ l.length * 63 := Nat.mul_le_mul_left _ hw
      omega
theorem risB_le {l : List Int} (hf : FitL l) (hn : anyNeg l = false) (hl : l.length ≤ 1000000000) : (risB l).length ≤ 10 + 10 * l.length := by
  have hu := (uvar_le l.length (by omega)).2
  have hg := gapsB_le hf (-1) (by omega) (fun z hz => neg_mem hn hz)
  unfold risB
  rw [List.length_append]; omega

structure SP (w : World) (base p q : Nat) (vl vb vw vx : Value) (L : List Int) (B o1 o2 : List UInt8) : Prop where
  l : Own w base 3 vl (intL L)
  b : Own w base 5 vb (bytesV B)
  w1 : Wr w base p vw o1
  w2 : Wr w base q vx o2
  d1 : ∀ k, WrB q vx k → ¬ WrB p vw k
  d2 : ∀ k, vb.ownBlock = some k → ¬ WrB p vw k
  d3 : ∀ k, vb.ownBlock = some k → ¬ WrB q vx k
section
variable {w w' : World} {base p q : Nat} {vl vb vw vx : Value} {L : List Int} {B o1 o2 : List UInt8}
theorem SP.put1 (h : SP w base p q vl vb vw vx L B o1 o2) {v' : Value} {o : List UInt8} (hw : Wr w' base p v' o) (e : Wrote w w' p vw v') : SP w' base p q vl vb v' vx L B o o2 :=
  ⟨h.l.eff e.eff (h.w1.offOwn h.l (by decide) (by decide)), h.b.eff e.eff h.d2, hw, h.w2.eff e.eff h.d1, dis_fresh h.d1 (fun k hk => (h.w2.ge k hk).2) e, dis_fresh h.d2 (fun k hk => (h.b.lt k hk).2) e, h.d3⟩
theorem SP.put2 (h : SP w base p q vl vb vw vx L B o1 o2) {v' : Value} {o : List UInt8} (hw : Wr w' base q v' o) (e : Wrote w w' q vx v') : SP w' base p q vl vb vw v' L B o1 o :=
  ⟨h.l.eff e.eff (h.w2.offOwn h.l (by decide) (by decide)), h.b.eff e.eff h.d3, h.w1.eff e.eff (fun k hk hx => h.d1 k hx hk), hw, fun k hk hk2 => dis_fresh (fun k hk hx => h.d1 k hx hk) (fun k hk => (h.w1.ge k hk).2) e k hk2 hk, h.d2, dis_fresh h.d3 (fun k hk => (h.b.lt k hk).2) e⟩
theorem SP.below (h : SP w base p q vl vb vw vx L B o1 o2) (hb : Below w.heap.size w w') : SP w' base p q vl vb vw vx L B o1 o2 :=
  ⟨h.l.below hb (Nat.le_refl _), h.b.below hb (Nat.le_refl _), h.w1.of_below hb, h.w2.of_below hb, h.d1, h.d2, h.d3⟩
theorem SP.drewN (h : SP w base p q vl vb vw vx L B o1 o2) (d : Nat) : SP (w.drewN d) base p q vl vb vw vx L B o1 o2 :=
  ⟨h.l.drewN d, h.b.drewN d, h.w1.drewN d, h.w2.drewN d, h.d1, h.d2, h.d3⟩
/-- Behind append(l, x): the list stays. -/
theorem SP.grew (h : SP w base p q vl vb vw vx L B o1 o2) (k : Keeps w w' vl (intL L).length) (g : w.grownBy w' vl.ownBlock) : SP w' base p q vl vb vw vx L B o1 o2 := by
  have e : Eff (fun k => vl.ownBlock = some k) w w' := (Eff.refl _ _).grown g (fun i hi _ => hi)
  exact ⟨k _ _ _ _ h.l (fun _ _ _ => Nat.le_refl _), h.b.eff e (fun k hk hl => own_types h.b h.l (by decide) hk hl), h.w1.eff e (fun k hk hl => h.w1.offOwn h.l (by decide) (by decide) k hl hk), h.w2.eff e (fun k hk hl => h.w2.offOwn h.l (by decide) (by decide) k hl hk), h.d1, h.d2, h.d3⟩
theorem SP.grewOther (h : SP w base p q vl vb vw vx L B o1 o2) {b : Nat} {v : Value} {xs : List Value} (e : Eff (fun k => v.ownBlock = some k) w w') (ho : Own w b 3 v xs) (hne : ∀ k, vl.ownBlock = some k → ¬ v.ownBlock = some k) : SP w' base p q vl vb vw vx L B o1 o2 :=
  ⟨h.l.eff e hne, h.b.eff e (fun k hk hl => own_types h.b ho (by decide) hk hl), h.w1.eff e (fun k hk hl => h.w1.offOwn ho (by decide) (by decide) k hl hk), h.w2.eff e (fun k hk hl => h.w2.offOwn ho (by decide) (by decide) k hl hk), h.d1, h.d2, h.d3⟩
theorem SP.setL {g n c : Nat} (h : SP w base p q (.slice (some ⟨g, 0, none⟩) n c) vb vw vx L B o1 o2) (j : Nat) (z : Int) : SP (w.setCell ⟨g, j, none⟩ (.int .i64 z)) base p q (.slice (some ⟨g, 0, none⟩) n c) vb vw vx (L.set j z) B o1 o2 := by
  have e : Eff (fun k => k = g) w (w.setCell ⟨g, j, none⟩ (.int .i64 z)) := (Eff.refl (fun k => k = g) w).setCell (p := ⟨g, j, none⟩) (fun _ => rfl) _
  exact ⟨own_to (h.l.set j _) (by simp [intL, List.map_set]), h.b.eff e (fun k hk hl => by subst hl; exact own_types h.b h.l (by decide) hk rfl), h.w1.eff e (fun k hk hl => by subst hl; exact h.w1.offOwn h.l (by decide) (by decide) _ rfl hk), h.w2.eff e (fun k hk hl => by subst hl; exact h.w2.offOwn h.l (by decide) (by decide) _ rfl hk), h.d1, h.d2, h.d3⟩
theorem SP.setB {g n c : Nat} (h : SP w base p q vl (.slice (some ⟨g, 0, none⟩) n c) vw vx L B o1 o2) (j : Nat) (x : UInt8) : SP (w.setCell ⟨g, j, none⟩ (.int .u8 ((x.toNat : Nat) : Int))) base p q vl (.slice (some ⟨g, 0, none⟩) n c) vw vx L (B.set j x) o1 o2 := by
  have e : Eff (fun k => k = g) w (w.setCell ⟨g, j, none⟩ (.int .u8 ((x.toNat : Nat) : Int))) := (Eff.refl (fun k => k = g) w).setCell (p := ⟨g, j, none⟩) (fun _ => rfl) _
  exact ⟨h.l.eff e (fun k hk hl => by subst hl; exact own_types h.b h.l (by decide) rfl hk), own_to (h.b.set j _) (by simp [bytesV, List.map_set]), h.w1.eff e (fun k hk hl => by subst hl; exact h.d2 _ rfl hk), h.w2.eff e (fun k hk hl => by subst hl; exact h.d3 _ rfl hk), h.d1, h.d2, h.d3⟩
end
end Go.Proofs.YtmmflhippbegaaaDoor
