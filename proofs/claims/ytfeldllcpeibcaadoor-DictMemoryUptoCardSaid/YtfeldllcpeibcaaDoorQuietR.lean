/- A region that draws its order and only reads, inside a round of a range over a function: one walk in the text's order serves. No program occurs here. -/
import Derived.Sort.QuietThIn
import Derived.BigQuiet
import Derived.TacticsIn
namespace Go.Proofs.YtfeldllcpeibcaaDoor
section
variable {F : Fence} {n : Nat} {P : Program} {ops : Array Oper} {md : Region.Mode} {C : World → Prop}
/-- No operation of the region defers. -/
def NoDefer (ops : Array Oper) : Prop := ∀ o ∈ ops.toList, ∀ c, o.op ≠ .defer c
def noDeferB (ops : Array Oper) : Bool := ops.all fun o => match o.op with | .defer _ => false | _ => true
theorem noDefer_of (h : noDeferB ops = true) : NoDefer ops := fun o ho c e => by
  have h1 := (Array.all_eq_true_iff_forall_mem.1 h) o (Array.mem_toList_iff.1 ho)
  rw [e] at h1
  cases h1
theorem quiet_op {o : Oper} {a : Act} {K : Act → Prop} {K' : Act → World → Prop} {Q' : Exit → Act → World → Prop} {w : World} (hd : ∀ c, o.op ≠ .defer c) (hw : C w) (h : ∀ a w', C w' → K a → K' a w')
    (ha : o.askedIn F P a C) (hh : o.quietIn F n P a C K) : o.wpIn F n P a w K' Q' := by
  obtain ⟨v, h1, h2⟩ := hh
  have h3 := h1 w hw
  unfold Oper.quietAtIn at h3
  unfold Oper.wpIn
  refine ⟨ha w hw, ?_⟩
  rw [Oper.semAt_eq _ _ _ hd]
  generalize (execOp a.eval o).run P w = r at *
  cases r with
  | halt x w' => simp only [Oper.quietUponIn] at h3
  | ok x w' =>
    cases x <;> simp only [Oper.quietUponIn] at h3 <;> simp only [Oper.uponIn]
    case value u =>
      rw [h3.1, h3.2]; exact h _ _ hw h2
    case skip =>
      rw [h3.1, ← h3.2]; exact h _ _ hw h2
    case enter f args =>
      rw [h3.1]
      exact ⟨h3.2.1, h3.2.2.mono fun e w'' ⟨he, hw''⟩ => by subst he; exact h _ _ hw'' h2⟩
theorem quiet_at {i : Nat} {a : Act} {K : Act → Prop} {K' : Act → World → Prop} {Q' : Exit → Act → World → Prop} {w : World} (hnd : NoDefer ops) (hC : C w) (h : ∀ a w', C w' → K a → K' a w')
    (hh : qOpIn F n P ops C i K a) : wpOpIn F n P ops Q' i K' a w := by
  unfold qOpIn at hh
  unfold wpOpIn
  split
  · next ho => simp only [ho] at hh; exact h _ _ hC hh
  · next o ho =>
    simp only [ho] at hh
    have hd := hnd o (by rw [Array.mem_toList_iff]; exact Array.mem_of_getElem? ho)
    split
    · next hw => simp only [hw, if_true] at hh; exact quiet_op hd hC h hh.1 hh.2
    · next hw => simp only [hw] at hh; exact ⟨hh.1 w hC, h _ _ hC hh.2⟩
theorem quiet_any {Q : Act → Prop} {Q' : Exit → Act → World → Prop} (hnd : NoDefer ops) (hQ : ∀ a w, C w → Q a → Q' .normal a w) : ∀ (fuel : Nat) (listed : Array Bool) (a : Act) (w : World), C w →
    wpAnyQIn F n P md ops C Q fuel listed a → wpAnyIn F n P md ops Q' fuel listed a w
  | 0, _, _, _, hw, h => ⟨h.1, hQ _ _ hw h.2⟩
  | fuel + 1, _, _, _, hw, h => ⟨fun h0 => hQ _ _ hw (h.1 h0), fun i hi => quiet_at hnd hw (fun a' w' hw' => quiet_any hnd hQ fuel _ a' w' hw') (h.2 i hi)⟩
/-- At the class 'w after some draws'. -/
theorem region_quiet_r {id : Nat} {Q : Exit → Act → World → Prop} {a : Act} {w : World} {l : List Oper} (hm : P.follows .mixedOrders = true) (hB : Region.lexB .any l.toArray = true) (hnd : noDeferB l.toArray = true)
    (h : wpQuietIn F n P l.toArray (fun w' => ∃ n, w' = w.drewN n) (fun a' => ∀ w', (∃ n, w' = w.drewN n) → Q .normal a' w') l a) : (Code.region id l.toArray true).wpIn F n P Q a w := by
  simp only [Region.lexB, Bool.and_eq_true] at hB
  refine wpIn_region_any hm (quiet_any (C := fun w' => ∃ n, w' = w.drewN n) (Q := fun a' => ∀ w', (∃ n, w' = w.drewN n) → Q .normal a' w') (noDefer_of hnd) (fun _ w' hw' h => h w' hw') _ _ _ _ ⟨1, rfl⟩ ?_)
  have := wpAnyQIn_lex (F := F) (n := n) (C := fun w' => ∃ n, w' = w.drewN n) (md := .any) hB.1 l 0 (Array.replicate l.toArray.size false) a (by simp) (by simpa using hB.2) h
  simpa using this
end
end Go.Proofs.YtfeldllcpeibcaaDoor
