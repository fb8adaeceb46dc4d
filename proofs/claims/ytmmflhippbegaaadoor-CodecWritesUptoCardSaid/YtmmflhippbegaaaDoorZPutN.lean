/- What a Writer and the document say of one list is alike. -/
import Derived.Test.YtmmflhippbegaaaDoorZG2
import Derived.Test.YtmmflhippbegaaaDoorZG3
import Derived.Test.YtmmflhippbegaaaDoorZPutW
import Derived.Test.YtmmflhippbegaaaDoorZSp
namespace Go.Proofs.YtmmflhippbegaaaDoor
set_option linter.unusedVariables false
open Go.ChangeShapes Go.WideShapes Go.ChangeAt Go.RowKit

/-- The number of the error er is k. -/
def NumOk (EA : Nat → Addr) (er : Value) (k : Nat) : Prop := ∀ W, Sent W EA → Calls Tryd.prog 31 #[er] W fun e w' => e = .returned (.int .i64 (k : Nat)) ∧ W = w'
theorem numOk_nil (EA : Nat → Addr) : NumOk EA .nilIface 0 := fun W _ => num_nil W
theorem numOk_range (EA : Nat → Addr) : NumOk EA (errV EA 8) 8 := fun W h => num_Range W EA h
theorem numOk_order (EA : Nat → Addr) : NumOk EA (errV EA 4) 4 := fun W h => num_Order W EA h
theorem numOk_limit (EA : Nat → Addr) : NumOk EA (errV EA 3) 3 := fun W h => num_Limit W EA h
/-- What a Writer answers for a list whose bytes are b, by the document, and the error's number k. -/
def NOut (w : World) (base p : Nat) (v : Value) (bs b : List UInt8) (k : Nat) (EA : Nat → Addr) (e : Ending) (w' : World) : Prop :=
  ∃ er v', e = .returned er ∧ NumOk EA er k ∧ Wr w' base p v' (bs ++ b) ∧ Wrote w w' p v v'
theorem wris_out (w : World) (base p : Nat) (v : Value) (bs : List UInt8) (h : Wr w base p v bs) (hb : base ≤ w.heap.size) (hbl : bs.length ≤ 10000000000) (a : Option Addr) (n c : Nat) (l : List Int) (hr : Rd w (.slice a n c) (intL l)) (hl : l.length ≤ 1000000000) (hf : FitL l)
    (EA : Nat → Addr) (hE : Sent w EA) (hoff : 0 < l.length → ∀ b o, a = some ⟨b, o, none⟩ → ¬ WrB p v b) (b : List UInt8) (k : Nat) (hO : RisO l b k) :
    Calls Tryd.prog 36 #[.pointer (some ⟨p, 0, none⟩), .slice a n c] w (NOut w base p v bs b k EA) := by
  refine (wris_any w base p v bs h hb hbl a n c l hr hl hf (errV EA 8) (errV EA 4) hE.c8 hE.c4 hoff).mono fun e w' ⟨h1, h2, h3⟩ => ?_
  cases hn : anyNeg l with
  | true =>
    obtain ⟨rfl, rfl⟩ := h1 hn
    obtain ⟨rfl, rfl⟩ := hO.1 hn
    exact ⟨_, v, rfl, numOk_range EA, by simpa using h, Wrote.refl _ _ _⟩
  | false =>
    by_cases hri : rises l
    · obtain ⟨rfl, v', hw, hwr⟩ := h3 hn hri
      obtain ⟨rfl, rfl⟩ := hO.2.2 hn hri
      exact ⟨_, v', rfl, numOk_nil EA, hw, hwr⟩
    · obtain ⟨rfl, d, rfl⟩ := h2 hn hri
      obtain ⟨rfl, rfl⟩ := hO.2.1 hn hri
      exact ⟨_, v, rfl, numOk_order EA, by simpa using h.drewN d, (Wrote.refl _ _ _).drewN d⟩
theorem wpck_out (w : World) (base p : Nat) (v : Value) (bs : List UInt8) (h : Wr w base p v bs) (hb : base ≤ w.heap.size) (hbl : bs.length ≤ 10000000000) (a : Option Addr) (n c : Nat) (l : List Int) (hr : Rd w (.slice a n c) (intL l)) (hl : l.length ≤ 1000000000) (hf : FitL l)
    (EA : Nat → Addr) (hE : Sent w EA) (hoff : 0 < l.length → ∀ b o, a = some ⟨b, o, none⟩ → ¬ WrB p v b) :
    Calls Tryd.prog 16 #[.pointer (some ⟨p, 0, none⟩), .slice a n c] w (NOut w base p v bs (pckO l).1 (pckO l).2 EA) := by
  refine (wpck_any w base p v bs h hb hbl a n c l hr hl hf (errV EA 8) (errV EA 3) hE.c8 hE.c3 hoff).mono fun e w' ⟨h1, h2, h3⟩ => ?_
  cases hn : anyNeg l with
  | true =>
    obtain ⟨rfl, rfl⟩ := h1 hn
    rw [pckO_neg hn]
    exact ⟨_, v, rfl, numOk_range EA, by simpa using h, Wrote.refl _ _ _⟩
  | false =>
    by_cases hok : okPck l
    · obtain ⟨rfl, v', hw, hwr⟩ := h3 hok
      have : widL (natOf l) ≠ 0 ∨ l.length ≤ 65536 := by
        by_cases hz : widL (natOf l) = 0
        · exact .inr (hok.2 ((zerosB_iff hn hf).1 hz))
        · exact .inl hz
      rw [pckO_ok hn this]
      exact ⟨_, v', rfl, numOk_nil EA, hw, hwr⟩
    · obtain ⟨rfl, rfl⟩ := h2 hn hok
      have hz : zerosB l = true := by
        cases hz : zerosB l
        · exact absurd ⟨hn, fun h2 => absurd (hz.symm.trans h2) (by decide)⟩ hok
        · rfl
      have hbig : 65536 < l.length := by
        rcases Nat.lt_or_ge 65536 l.length with h5 | h5
        · exact h5
        · exact absurd ⟨hn, fun _ => h5⟩ hok
      rw [pckO_lim hn ((zerosB_iff hn hf).2 hz) hbig]
      exact ⟨_, v, rfl, numOk_limit EA, by simpa using h, Wrote.refl _ _ _⟩
theorem risO_len {l : List Int} {b : List UInt8} {k : Nat} (h : RisO l b k) (hf : FitL l) (hl : l.length ≤ 1000000000) : b.length ≤ 20 + 10 * l.length := by
  cases hn : anyNeg l with
  | true => rw [(h.1 hn).1]; simp
  | false =>
    by_cases hri : rises l
    · rw [(h.2.2 hn hri).1]; have := risB_le hf hn hl; omega
    · rw [(h.2.1 hn hri).1]; simp
theorem pckO_len {l : List Int} (hf : FitL l) (hl : l.length ≤ 1000000000) : (pckO l).1.length ≤ 20 + 10 * l.length := by
  unfold pckO
  split
  · simp
  split
  · simp
  · rcases pckB_le (natOf_fit hf) with h | h
    · rw [natOf_length] at h; show (pckB (natOf l)).length ≤ _; omega
    · rw [natOf_length] at h; omega
end Go.Proofs.YtmmflhippbegaaaDoor
