/- The state of the law CodecWrites: two Writers, what they are to hold, a book, what was handed out. -/
import Derived.Test.YtmmflhippbegaaaDoorZBook2
import Derived.Test.YtmmflhippbegaaaDoorZSp
namespace Go.Proofs.YtmmflhippbegaaaDoor
set_option linter.unusedVariables false
open Go.ChangeShapes Go.WideShapes Go.ChangeAt Go.RowKit

def upd {α : Type} (f : Bool → α) (b : Bool) (a : α) : Bool → α := fun c => if c = b then a else f c
theorem upd_same {α : Type} (f : Bool → α) (b : Bool) (a : α) : upd f b a b = a := by simp [upd]
theorem upd_ne {α : Type} (f : Bool → α) {b c : Bool} (a : α) (h : c ≠ b) : upd f b a c = f c := by simp [upd, h]

/-- Lists of bytes that lie apart, each with what it holds. -/
structure Sep (w : World) (B : Nat) (L : List (Value × List UInt8)) : Prop where
  own : ∀ (i : Nat) (x : Value × List UInt8), L[i]? = some x → Own w B 5 x.1 (bytesV x.2)
  apart : ∀ (i j : Nat) (x y : Value × List UInt8) (k : Nat), L[i]? = some x → L[j]? = some y → x.1.ownBlock = some k → y.1.ownBlock = some k → i = j
section
variable {w w' : World} {B : Nat} {L : List (Value × List UInt8)}
theorem Sep.eff {F : Nat → Prop} (h : Sep w B L) (e : Eff F w w') (hF : ∀ (i : Nat) (x : Value × List UInt8) (k : Nat), L[i]? = some x → x.1.ownBlock = some k → ¬ F k) : Sep w' B L :=
  ⟨fun i x hx => (h.own i x hx).eff e (fun k hk => hF i x k hx hk), h.apart⟩
theorem Sep.lt (h : Sep w B L) {i : Nat} {x : Value × List UInt8} {k : Nat} (hx : L[i]? = some x) (hk : x.1.ownBlock = some k) : k < w.heap.size := ((h.own i x hx).lt k hk).2
theorem Sep.set {F : Nat → Prop} (h : Sep w B L) (e : Eff F w w') {i : Nat} {x : Value × List UInt8} (hx : L[i]? = some x) (hF : ∀ (j : Nat) (y : Value × List UInt8) (k : Nat), j ≠ i → L[j]? = some y → y.1.ownBlock = some k → ¬ F k)
    {v' : Value} {bs' : List UInt8} (ho : Own w' B 5 v' (bytesV bs')) (hf : Fresh w.heap.size x.1 v') : Sep w' B (L.set i (v', bs')) := by
  have hi : i < L.length := (List.getElem?_eq_some_iff.1 hx).1
  refine ⟨fun j y hy => ?_, fun j j2 y z k hy hz h1 h2 => ?_⟩
  · by_cases hj : j = i
    · subst hj; rw [List.getElem?_set_self hi] at hy; injection hy with hy; subst hy; exact ho
    · rw [List.getElem?_set_ne (Ne.symm hj)] at hy; exact (h.own j y hy).eff e (fun k hk => hF j y k hj hy hk)
  · by_cases hj : j = i
    · by_cases hj2 : j2 = i
      · rw [hj, hj2]
      · subst hj
        rw [List.getElem?_set_self hi] at hy; injection hy with hy; subst hy
        rw [List.getElem?_set_ne (Ne.symm hj2)] at hz
        rcases hf k h1 with h3 | h3
        · exact h.apart _ _ _ _ k hx hz h3 h2
        · have := h.lt hz h2; omega
    · rw [List.getElem?_set_ne (Ne.symm hj)] at hy
      by_cases hj2 : j2 = i
      · subst hj2
        rw [List.getElem?_set_self hi] at hz; injection hz with hz; subst hz
        rcases hf k h2 with h3 | h3
        · exact h.apart _ _ _ _ k hy hx h1 h3
        · have := h.lt hy h1; omega
      · rw [List.getElem?_set_ne (Ne.symm hj2)] at hz; exact h.apart _ _ _ _ k hy hz h1 h2
theorem Sep.snoc (h : Sep w B L) {H : Nat} (hlt : ∀ (i : Nat) (x : Value × List UInt8) (k : Nat), L[i]? = some x → x.1.ownBlock = some k → k < H) {v : Value} {bs : List UInt8} (hB : B ≤ H) (ho : Own w H 5 v (bytesV bs)) : Sep w B (L ++ [(v, bs)]) := by
  have key : ∀ (i : Nat) (x : Value × List UInt8), (L ++ [(v, bs)])[i]? = some x → (L[i]? = some x) ∨ (i = L.length ∧ x = (v, bs)) := by
    intro i x hx
    rcases Nat.lt_trichotomy i L.length with hl | hl | hl
    · rw [List.getElem?_append_left hl] at hx; exact .inl hx
    · subst hl; rw [List.getElem?_append_right (Nat.le_refl _), Nat.sub_self] at hx; simp at hx; exact .inr ⟨rfl, hx.symm⟩
    · rw [List.getElem?_eq_none (by simp; omega)] at hx; cases hx
  refine ⟨fun i x hx => ?_, fun i j x y k hx hy h1 h2 => ?_⟩
  · rcases key i x hx with hx | ⟨_, rfl⟩
    · exact h.own i x hx
    · exact own_base ho hB
  · rcases key i x hx with hx | ⟨e1, rfl⟩
    · rcases key j y hy with hy | ⟨e2, rfl⟩
      · exact h.apart i j x y k hx hy h1 h2
      · have := hlt i x k hx h1; have := (ho.lt k h2).1; omega
    · rcases key j y hy with hy | ⟨e2, rfl⟩
      · have := hlt j y k hy h2; have := (ho.lt k h1).1; omega
      · rw [e1, e2]
end

/-- The state: the Writers' blocks p, their values v, what they hold hv; the row of what is to be held (at ph), its values x, what they hold hx; the book (at pk), what was kept, what was wanted. -/
structure WS (w : World) (B pk ph : Nat) (p : Bool → Nat) (v x : Bool → Value) (hv hx : Bool → List UInt8) (vb vk vw : Value) (lb lk lw : List Value) (K : List (Value × List UInt8)) : Prop where
  wr : ∀ b, Wr w B (p b) (v b) (hv b)
  pp : p false ≠ p true
  hh : w.heap[ph]? = some (.cells #[x false, x true] 37 (0, 0))
  hp : B ≤ ph
  bk : BookX w B pk vb (.slice none 0 0) lb []
  kp : Own w B 37 vk lk
  wn : Own w B 9 vw lw
  sp : Sep w B ((v false, hv false) :: (v true, hv true) :: (x false, hx false) :: (x true, hx true) :: K)
  n1 : vb.ownBlock ≠ some ph
  n2 : vk.ownBlock ≠ some ph
  n3 : ∀ k, vb.ownBlock = some k → vk.ownBlock ≠ some k
section
variable {w w' : World} {B pk ph : Nat} {p : Bool → Nat} {v x : Bool → Value} {hv hx : Bool → List UInt8} {vb vk vw : Value} {lb lk lw : List Value} {K : List (Value × List UInt8)}
theorem WS.ownX (h : WS w B pk ph p v x hv hx vb vk vw lb lk lw K) (b : Bool) : Own w B 5 (x b) (bytesV (hx b)) := by
  cases b
  · exact h.sp.own 2 _ rfl
  · exact h.sp.own 3 _ rfl
theorem WS.under (h : WS w B pk ph p v x hv hx vb vk vw lb lk lw K) (e : Eff (fun _ => False) w w') : WS w' B pk ph p v x hv hx vb vk vw lb lk lw K :=
  ⟨fun b => (h.wr b).eff e (fun _ _ f => f), h.pp, (e.block _ (lt_of_heap h.hh) (fun f => f)).trans h.hh, h.hp, h.bk.eff e (fun _ _ f => f), h.kp.eff e (fun _ _ f => f), h.wn.eff e (fun _ _ f => f), h.sp.eff e (fun _ _ _ _ _ f => f), h.n1, h.n2, h.n3⟩
theorem WS.drewN (h : WS w B pk ph p v x hv hx vb vk vw lb lk lw K) (d : Nat) : WS (w.drewN d) B pk ph p v x hv hx vb vk vw lb lk lw K := h.under ((Eff.refl _ _).drewN d)
theorem WS.alloc (h : WS w B pk ph p v x hv hx vb vk vw lb lk lw K) (o : Obj) : WS (w.alloc o) B pk ph p v x hv hx vb vk vw lb lk lw K := h.under ((Eff.refl _ _).alloc o)
theorem WS.of_below (h : WS w B pk ph p v x hv hx vb vk vw lb lk lw K) (e : Below w.heap.size w w') : WS w' B pk ph p v x hv hx vb vk vw lb lk lw K := h.under (Eff.of_below e _)
/-- The blocks of the Writers' values and of the row's values lie apart. -/
theorem WS.vv (h : WS w B pk ph p v x hv hx vb vk vw lb lk lw K) {b c : Bool} (hbc : c ≠ b) {k : Nat} (h1 : (v c).ownBlock = some k) : (v b).ownBlock ≠ some k := by
  intro h2
  cases b <;> cases c
  · exact hbc rfl
  · exact absurd (h.sp.apart 1 0 _ _ k rfl rfl h1 h2) (by decide)
  · exact absurd (h.sp.apart 0 1 _ _ k rfl rfl h1 h2) (by decide)
  · exact hbc rfl
theorem WS.vx (h : WS w B pk ph p v x hv hx vb vk vw lb lk lw K) {b c : Bool} {k : Nat} (h1 : (v c).ownBlock = some k) : (x b).ownBlock ≠ some k := by
  intro h2
  cases b <;> cases c
  · exact absurd (h.sp.apart 0 2 _ _ k rfl rfl h1 h2) (by decide)
  · exact absurd (h.sp.apart 1 2 _ _ k rfl rfl h1 h2) (by decide)
  · exact absurd (h.sp.apart 0 3 _ _ k rfl rfl h1 h2) (by decide)
  · exact absurd (h.sp.apart 1 3 _ _ k rfl rfl h1 h2) (by decide)
theorem WS.wrote (h : WS w B pk ph p v x hv hx vb vk vw lb lk lw K) {b : Bool} {v' : Value} {bs' : List UInt8} (hw : Wr w' B (p b) v' bs') (hr : Wrote w w' (p b) (v b) v') :
    WS w' B pk ph p (upd v b v') x (upd hv b bs') hx vb vk vw lb lk lw K := by
  have tW : ∀ {g : Nat} {cs : Array Value} {t : TypeId} {fr : Nat × Nat}, w.heap[g]? = some (.cells cs t fr) → t ≠ 87 → 5 ≠ t → ¬ WrB (p b) (v b) g := by
    rintro g cs t fr hg h1 h2 (rfl | hk)
    · rw [(h.wr b).blk] at hg; injection hg with hg; injection hg with _ hg; exact h1 hg.symm
    · exact (h.wr b).own.ne_type hg h2 hk
  refine ⟨fun c => ?_, h.pp, (hr.eff.block _ (lt_of_heap h.hh) (tW h.hh (by decide) (by decide))).trans h.hh, h.hp, h.bk.eff hr.eff (fun k hk hf => ?_), h.kp.eff hr.eff ((h.wr b).offOwn h.kp (by decide) (by decide)), h.wn.eff hr.eff ((h.wr b).offOwn h.wn (by decide) (by decide)), ?_, h.n1, h.n2, h.n3⟩
  · by_cases hc : c = b
    · subst hc; rw [upd_same, upd_same]; exact hw
    · rw [upd_ne _ _ hc, upd_ne _ _ hc]
      refine (h.wr c).eff hr.eff (fun k hk hf => ?_)
      rcases hk with rfl | hk
      · rcases hf with hf | hf
        · cases b <;> cases c
          · exact hc rfl
          · exact h.pp hf.symm
          · exact h.pp hf
          · exact hc rfl
        · exact (h.wr b).own.ne_type (h.wr c).blk (by decide) hf
      · rcases hf with rfl | hf
        · exact (h.wr c).own.ne_type (h.wr b).blk (by decide) hk
        · exact h.vv hc hk hf
  · rcases hf with rfl | hf
    · exact h.bk.off (h.wr b).blk (by decide) (by decide) (by decide) hk
    · exact h.bk.offOwn (h.wr b).own (by decide) (by decide) (by decide) k hf hk
  · have hne : ∀ (j : Nat) (y : Value × List UInt8) (k : Nat), ((v false, hv false) :: (v true, hv true) :: (x false, hx false) :: (x true, hx true) :: K)[j]? = some y → y.1.ownBlock = some k → k ≠ p b := by
      rintro j y k hy hk rfl
      exact (h.sp.own j y hy).ne_type (h.wr b).blk (by decide) hk
    cases b
    · have := h.sp.set (i := 0) hr.eff rfl (fun j y k hj hy hk hf => by
        rcases hf with hf | hf
        · exact hne j y k hy hk hf
        · exact hj (h.sp.apart j 0 _ _ k hy rfl hk hf)) hw.own hr.fresh
      simpa [upd] using this
    · have := h.sp.set (i := 1) hr.eff rfl (fun j y k hj hy hk hf => by
        rcases hf with hf | hf
        · exact hne j y k hy hk hf
        · exact hj (h.sp.apart j 1 _ _ k hy rfl hk hf)) hw.own hr.fresh
      simpa [upd] using this
/-- What a Writer is to hold is put anew. -/
theorem WS.held {w1 : World} (h : WS w B pk ph p v x hv hx vb vk vw lb lk lw K) (b : Bool) {x' : Value} {bs' : List UInt8} (ho : Own w1 B 5 x' (bytesV bs')) (e : Eff (fun k => (x b).ownBlock = some k) w w1) (hf : Fresh w.heap.size (x b) x') :
    WS (w1.setCell ⟨ph, b.toNat, none⟩ x') B pk ph p v (upd x b x') hv (upd hx b bs') vb vk vw lb lk lw K := by
  have e2 : Eff (fun k => k = ph ∨ (x b).ownBlock = some k) w (w1.setCell ⟨ph, b.toNat, none⟩ x') := Eff.setCell (F := fun k => k = ph ∨ (x b).ownBlock = some k) (e.mono (fun i hi _ => Or.inr hi)) (p := ⟨ph, b.toNat, none⟩) (fun _ => .inl rfl) _
  have tX : ∀ {g : Nat} {cs : Array Value} {t : TypeId} {fr : Nat × Nat}, w.heap[g]? = some (.cells cs t fr) → 37 ≠ t → 5 ≠ t → ¬ (g = ph ∨ (x b).ownBlock = some g) := by
    rintro g cs t fr hg h1 h2 (rfl | hk)
    · rw [h.hh] at hg; injection hg with hg; injection hg with _ hg; exact h1 hg
    · exact (h.ownX b).ne_type hg h2 hk
  have hph1 : w1.heap[ph]? = some (.cells #[x false, x true] 37 (0, 0)) := (e.block _ (lt_of_heap h.hh) ((h.ownX b).ne_type h.hh (by decide))).trans h.hh
  have ho2 : Own (w1.setCell ⟨ph, b.toNat, none⟩ x') B 5 x' (bytesV bs') := ho.setOther (ho.ne_type hph1 (by decide)) _
  refine ⟨fun c => (h.wr c).eff e2 (fun k hk hf => ?_), h.pp, ?_, h.hp, h.bk.eff e2 (fun k hk hf => ?_), h.kp.eff e2 (fun k hk hf => ?_), h.wn.eff e2 (fun k hk hf => ?_), ?_, h.n1, h.n2, h.n3⟩
  · rcases hk with rfl | hk
    · exact tX (h.wr c).blk (by decide) (by decide) hf
    · rcases hf with rfl | hf
      · exact (h.wr c).own.ne_type h.hh (by decide) hk
      · exact h.vx hk hf
  · rw [blk_set hph1]
    cases b <;> rfl
  · rcases hk with rfl | hk | hk
    · exact tX h.bk.blk (by decide) (by decide) hf
    · rcases hf with rfl | hf
      · exact h.n1 hk
      · exact own_types h.bk.ob (h.ownX b) (by decide) hk hf
    · simp [Value.ownBlock] at hk
  · rcases hf with rfl | hf
    · exact h.n2 hk
    · exact own_types h.kp (h.ownX b) (by decide) hk hf
  · rcases hf with rfl | hf
    · exact h.wn.ne_type h.hh (by decide) hk
    · exact own_types h.wn (h.ownX b) (by decide) hk hf
  · have hne : ∀ (j : Nat) (y : Value × List UInt8) (k : Nat), ((v false, hv false) :: (v true, hv true) :: (x false, hx false) :: (x true, hx true) :: K)[j]? = some y → y.1.ownBlock = some k → k ≠ ph := by
      rintro j y k hy hk rfl
      exact (h.sp.own j y hy).ne_type h.hh (by decide) hk
    cases b
    · have := h.sp.set (i := 2) e2 rfl (fun j y k hj hy hk hf => by
        rcases hf with hf | hf
        · exact hne j y k hy hk hf
        · exact hj (h.sp.apart j 2 _ _ k hy rfl hk hf)) ho2 hf
      simpa [upd] using this
    · have := h.sp.set (i := 3) e2 rfl (fun j y k hj hy hk hf => by
        rcases hf with hf | hf
        · exact hne j y k hy hk hf
        · exact hj (h.sp.apart j 3 _ _ k hy rfl hk hf)) ho2 hf
      simpa [upd] using this
theorem WS.book (h : WS w B pk ph p v x hv hx vb vk vw lb lk lw K) {vb' : Value} {lb' : List Value} (hk : BookX w' B pk vb' (.slice none 0 0) lb' []) (e : Eff (BkB pk vb (.slice none 0 0)) w w') (hf : Fresh w.heap.size vb vb') :
    WS w' B pk ph p v x hv hx vb' vk vw lb' lk lw K := by
  refine ⟨fun c => (h.wr c).eff e (fun k hk hf => ?_), h.pp, (e.block _ (lt_of_heap h.hh) (fun hf => ?_)).trans h.hh, h.hp, hk, h.kp.eff e (fun k hq hf => ?_), h.wn.eff e (h.bk.offOwn h.wn (by decide) (by decide) (by decide)), h.sp.eff e (fun i y k hy hk => h.bk.offOwn (h.sp.own i y hy) (by decide) (by decide) (by decide) k hk), fun h1 => ?_, h.n2, fun k h1 h2 => ?_⟩
  · rcases hk with rfl | hk
    · exact h.bk.off (h.wr c).blk (by decide) (by decide) (by decide) hf
    · exact h.bk.offOwn (h.wr c).own (by decide) (by decide) (by decide) k hk hf
  · rcases hf with rfl | hf | hf
    · have h1 := h.hh; rw [h.bk.blk] at h1; injection h1 with h1; injection h1 with _ h1; exact absurd h1 (by decide)
    · exact h.n1 hf
    · simp [Value.ownBlock] at hf
  · rcases hf with rfl | hf | hf
    · exact h.kp.ne_type h.bk.blk (by decide) hq
    · exact h.n3 k hf hq
    · simp [Value.ownBlock] at hf
  · rcases hf ph h1 with h2 | h2
    · exact h.n1 h2
    · have := lt_of_heap h.hh; omega
  · rcases hf k h1 with h3 | h3
    · exact h.n3 k h3 h2
    · have := (h.kp.lt k h2).2; omega
theorem WS.kept (h : WS w B pk ph p v x hv hx vb vk vw lb lk lw K) {vk' : Value} {lk' : List Value} (ho : Own w' B 37 vk' lk') (e : Eff (fun k => vk.ownBlock = some k) w w') (hf : Fresh w.heap.size vk vk') :
    WS w' B pk ph p v x hv hx vb vk' vw lb lk' lw K := by
  refine ⟨fun c => (h.wr c).eff e (fun k hk hf => ?_), h.pp, (e.block _ (lt_of_heap h.hh) (fun hf => h.n2 hf)).trans h.hh, h.hp, h.bk.eff e (fun k hk hf => ?_), ho, h.wn.eff e (fun k hk hf => own_types h.wn h.kp (by decide) hk hf), h.sp.eff e (fun i y k hy hk hf => own_types (h.sp.own i y hy) h.kp (by decide) hk hf), h.n1, fun h1 => ?_, fun k h1 h2 => ?_⟩
  · exact (h.wr c).offOwn h.kp (by decide) (by decide) k hf hk
  · rcases hk with rfl | hk | hk
    · exact h.kp.ne_type h.bk.blk (by decide) hf
    · exact h.n3 k hk hf
    · simp [Value.ownBlock] at hk
  · rcases hf ph h1 with h2 | h2
    · exact h.n2 h2
    · have := lt_of_heap h.hh; omega
  · rcases hf k h2 with h3 | h3
    · exact h.n3 k h1 h3
    · have := (h.bk.ob.lt k h1).2; omega
theorem WS.want (h : WS w B pk ph p v x hv hx vb vk vw lb lk lw K) {vw' : Value} {lw' : List Value} (ho : Own w' B 9 vw' lw') (e : Eff (fun k => vw.ownBlock = some k) w w') :
    WS w' B pk ph p v x hv hx vb vk vw' lb lk lw' K :=
  ⟨fun c => (h.wr c).eff e (fun k hk hf => (h.wr c).offOwn h.wn (by decide) (by decide) k hf hk), h.pp, (e.block _ (lt_of_heap h.hh) (h.wn.ne_type h.hh (by decide))).trans h.hh, h.hp, h.bk.eff e (fun k hk hf => h.bk.offOwn h.wn (by decide) (by decide) (by decide) k hf hk), h.kp.eff e (fun k hk hf => own_types h.kp h.wn (by decide) hk hf), ho, h.sp.eff e (fun i y k hy hk hf => own_types (h.sp.own i y hy) h.wn (by decide) hk hf), h.n1, h.n2, h.n3⟩
/-- What was handed out is new memory. -/
theorem WS.out (h : WS w B pk ph p v x hv hx vb vk vw lb lk lw K) (e : Below w.heap.size w w') (hB : B ≤ w.heap.size) {u : Value} {bs : List UInt8} (ho : Own w' w.heap.size 5 u (bytesV bs)) :
    WS w' B pk ph p v x hv hx vb vk vw lb lk lw (K ++ [(u, bs)]) := by
  have h1 := h.of_below e
  exact ⟨h1.wr, h1.pp, h1.hh, h1.hp, h1.bk, h1.kp, h1.wn, h1.sp.snoc (fun i y k hy hk => h.sp.lt hy hk) hB ho, h1.n1, h1.n2, h1.n3⟩
/-- A step to another K and lists that read alike. -/
theorem WS.recd (h : WS w B pk ph p v x hv hx vb vk vw lb lk lw K) (hm : ∀ y ∈ K, y.2.length ≤ 1000000000) : ∃ C, Rec w 5 (K.map (·.1)) C ∧ ∀ k, (C k).length ≤ 1000000000 := by
  have key : ∀ (i : Nat) (y : Value), (K.map (·.1))[i]? = some y → ∃ z, K[i]? = some z ∧ z.1 = y := by
    intro i y hy; rw [List.getElem?_map] at hy
    cases hz : K[i]? with
    | none => rw [hz] at hy; cases hy
    | some z => rw [hz] at hy; exact ⟨z, rfl, by simpa using hy⟩
  refine ⟨fun k => match K[k]? with | some y => bytesV y.2 | none => [], ⟨fun i y hy => ?_, fun i j y z k hy hz hij h1 h2 => ?_⟩, fun k => ?_⟩
  · obtain ⟨z, hz, rfl⟩ := key i y hy
    simp only [hz]
    exact own_base (h.sp.own (i + 4) z (by simpa using hz)) (Nat.zero_le _)
  · obtain ⟨y', hy', rfl⟩ := key i y hy
    obtain ⟨z', hz', rfl⟩ := key j z hz
    have := h.sp.apart (i + 4) (j + 4) y' z' k (by simpa using hy') (by simpa using hz') h1 h2
    omega
  · simp only
    split
    · rename_i y hy; rw [bytesV_length]; exact hm y (List.mem_of_getElem? hy)
    · simp
/-- Behind the look at what was handed out: the Writers and what they are to hold stay. -/
theorem WS.last (h : WS w B pk ph p v x hv hx vb vk vw lb lk lw K) (e : Eff (fun k => BlocksOf (K.map (·.1)) k ∨ BlocksOf [] k) w w') :
    (∀ b, Wr w' B (p b) (v b) (hv b)) ∧ w'.heap[ph]? = some (.cells #[x false, x true] 37 (0, 0)) ∧ ∀ b, Own w' B 5 (x b) (bytesV (hx b)) := by
  have key : ∀ k, (BlocksOf (K.map (·.1)) k ∨ BlocksOf [] k) → ∃ (i : Nat) (z : Value × List UInt8), K[i]? = some z ∧ z.1.ownBlock = some k := by
    rintro k (⟨i, y, hy, hk⟩ | ⟨i, y, hy, hk⟩)
    · rw [List.getElem?_map] at hy
      cases hz : K[i]? with
      | none => rw [hz] at hy; cases hy
      | some z => rw [hz] at hy; simp at hy; exact ⟨i, z, hz, by rw [hy]; exact hk⟩
    · simp at hy
  have hne : ∀ {g : Nat} {cs : Array Value} {t : TypeId} {fr : Nat × Nat}, w.heap[g]? = some (.cells cs t fr) → 5 ≠ t → ¬ (BlocksOf (K.map (·.1)) g ∨ BlocksOf [] g) := by
    intro g cs t fr hg ht hk
    obtain ⟨i, z, hz, hzk⟩ := key g hk
    exact (h.sp.own (i + 4) z (by simpa using hz)).ne_type hg ht hzk
  refine ⟨fun b => (h.wr b).eff e (fun k hk hf => ?_), (e.block _ (lt_of_heap h.hh) (hne h.hh (by decide))).trans h.hh, fun b => (h.ownX b).eff e (fun k hk hf => ?_)⟩
  · rcases hk with rfl | hk
    · exact hne (h.wr b).blk (by decide) hf
    · obtain ⟨i, z, hz, hzk⟩ := key k hf
      cases b
      · have := h.sp.apart 0 (i + 4) _ z k rfl (by simpa using hz) hk hzk; omega
      · have := h.sp.apart 1 (i + 4) _ z k rfl (by simpa using hz) hk hzk; omega
  · obtain ⟨i, z, hz, hzk⟩ := key k hf
    cases b
    · have := h.sp.apart 2 (i + 4) _ z k rfl (by simpa using hz) hk hzk; omega
    · have := h.sp.apart 3 (i + 4) _ z k rfl (by simpa using hz) hk hzk; omega
end

set_option maxRecDepth 100000 in
set_option maxHeartbeats 1000000 in
theorem bkB_f (w : World) (base p : Nat) (vb vi : Value) (lb li : List Value) (h : BookX w base p vb vi lb li) (hb : base ≤ w.heap.size) (hl : lb.length ≤ 1000000000) (a : Option Addr) (n c : Nat) :
    Calls Tryd.prog 19 #[.pointer (some ⟨p, 0, none⟩), .slice a n c] w fun e w' => e = .returned (.tuple #[]) ∧ ∃ v', BookX w' base p v' vi (lb ++ [.slice a n c]) li ∧ Eff (BkB p vb vi) w w' ∧ Fresh w.heap.size vb v' := by
  have hc0 : w.cell? ⟨p, 0, none⟩ = some vb := blk_cell h.blk 0
  have hll : lb.length < 1000000000000 := by omega
  obtain ⟨av, nv, cv, rfl⟩ := own_sl h.ob
  have hbo := h.ob
  have H := Lib.hid h
  clear h
  go_enter Tryd.func19, Tryd.ntmps19
  go_wp2_with (at_builtin; with_reducible refine ap1' elLists rfl hbo hll hb rfl _ _ rfl rfl rfl ?_)
  intro v' w1 g1 g2 g3 g4
  have hp1 := Lib.hid ((g4.block _ (lt_of_heap H.out.blk) (fun e => hbo.ne_type H.out.blk (by decide) e.symm)).trans H.out.blk)
  have ho1 := Lib.hid (H.out.oi.kept g4 (by
    cases hv : vi.ownBlock with
    | none => exact .inl rfl
    | some k => exact .inr (fun e => own_types hbo H.out.oi (by decide) e.symm hv)))
  obtain ⟨a1, n1, c1, rfl⟩ := own_sl g1
  have hc1 : w1.cell? ⟨p, 0, none⟩ = some (.slice av nv cv) := blk_cell hp1.out 0
  have hf1 : w1.frozen? ⟨p, 0, none⟩ = false := blk_frozen hp1.out 0
  have G3 := Lib.hid g3
  clear g3
  go_wp2
  go_end0
  have hp2 := blk_set hp1.out 0 (.slice a1 n1 c1)
  exact ⟨rfl, _, ⟨hp2, H.out.hp, g1.setOther (g1.ne_type hp1.out (by decide)) _, ho1.out.setOther (ho1.out.ne_type hp1.out (by decide)) _, fun e => by simp at e, H.out.ni⟩, (((Eff.refl _ _).grown g4 (fun k hk _ => .inr (.inl hk))).setCell (p := ⟨p, 0, none⟩) (fun _ => .inl rfl) _), fun k hk => by
    rcases G3.out with h | h
    · rw [h] at hk; exact .inl hk
    · rw [h.1] at hk; injection hk with hk; exact .inr (by omega)⟩
end Go.Proofs.YtmmflhippbegaaaDoor
