/- CodecReads: the statement with the two calls: its states. -/
import Derived.Test.YtmmflhippbegaaaDoorZReadsE
import Derived.Test.YtmmflhippbegaaaDoorZTold
namespace Go.Proofs.YtmmflhippbegaaaDoor
set_option linter.unusedVariables false
open Go.ChangeShapes Go.WideShapes Go.ChangeAt Go.RowKit

theorem Rdr.underR {w w' : World} {base p : Nat} {v : Value} {bs : List UInt8} {k : Nat} (h : Rdr w base p v bs k) (hb : Below w.heap.size w w') : Rdr w' base p v bs k :=
  h.eff (F := fun _ => False) (Eff.of_below hb _) (fun _ _ f => f)
/-- What the statement with the two calls loads. -/
structure SRd (O pd pa kk : Nat) (kd : Int) (sec : Bool) (n u ii : Int) (ba : Option Addr) (bn bc : Nat) (os : ByteArray) (la : Option Addr) (ln lc : Nat) (ax : Option Addr) (nx cx K : Nat) (w' : World) : Prop where
  b0 : w'.cell? ⟨O, 0, none⟩ = some (.int .i64 kd)
  b1 : w'.cell? ⟨O, 1, none⟩ = some (.bool sec)
  b2 : w'.cell? ⟨O, 2, none⟩ = some (.int .i64 n)
  b3 : w'.cell? ⟨O, 3, none⟩ = some (.int .u64 u)
  b4 : w'.cell? ⟨O, 4, none⟩ = some (.int .i64 ii)
  b5 : w'.cell? ⟨O, 5, none⟩ = some (.slice ba bn bc)
  b6 : w'.cell? ⟨O, 6, none⟩ = some (.string os)
  b7 : w'.cell? ⟨O, 7, none⟩ = some (.slice la ln lc)
  b8 : w'.cell? ⟨pd, kk, none⟩ = some (.slice ax nx cx)
  b9 : w'.cell? ⟨pa, kk, none⟩ = some (.int .i64 K)
theorem SRd.eff {O pd pa kk : Nat} {kd : Int} {sec : Bool} {n u ii : Int} {ba : Option Addr} {bn bc : Nat} {os : ByteArray} {la : Option Addr} {ln lc : Nat} {ax : Option Addr} {nx cx K : Nat} {w w' : World} {F : Nat → Prop} (h : SRd O pd pa kk kd sec n u ii ba bn bc os la ln lc ax nx cx K w) (e : Eff F w w') (h1 : ¬ F O) (h2 : ¬ F pd) (h3 : ¬ F pa) : SRd O pd pa kk kd sec n u ii ba bn bc os la ln lc ax nx cx K w' :=
  ⟨e.cell (p := ⟨O, 0, none⟩) h1 h.b0, e.cell (p := ⟨O, 1, none⟩) h1 h.b1, e.cell (p := ⟨O, 2, none⟩) h1 h.b2, e.cell (p := ⟨O, 3, none⟩) h1 h.b3, e.cell (p := ⟨O, 4, none⟩) h1 h.b4, e.cell (p := ⟨O, 5, none⟩) h1 h.b5, e.cell (p := ⟨O, 6, none⟩) h1 h.b6, e.cell (p := ⟨O, 7, none⟩) h1 h.b7, e.cell (p := ⟨pd, kk, none⟩) h2 h.b8, e.cell (p := ⟨pa, kk, none⟩) h3 h.b9⟩
/-- A block for a look. -/
def LkB (w : World) (H : Nat) (A : Option Nat) : Prop := ∀ a, A = some a → H ≤ a ∧ w.heap[a]? = some (.cells #[.int .u64 0, .string ⟨#[]⟩, .slice none 0 0, .int .i64 0, .int .i64 0] 66 (0, 0))
theorem LkB.eff {F : Nat → Prop} {w w' : World} {H : Nat} {A : Option Nat} (h : LkB w H A) (e : Eff F w w') (hF : ∀ a, A = some a → ¬ F a) : LkB w' H A := fun a ha =>
  ⟨(h a ha).1, (e.block a (lt_of_heap (h a ha).2) (hF a ha)).trans (h a ha).2⟩
/-- A state of the statement: what is so (St), what is loaded (Sc), the two blocks as far as they are made. -/
structure PQ (St Sc : World → Prop) (H : Nat) (A B : Option Nat) (w : World) : Prop where
  st : St w
  sc : Sc w
  la : LkB w H A
  lb : LkB w H B
  ne : ∀ a b, A = some a → B = some b → a ≠ b
  sz : H ≤ w.heap.size
section
variable {St Sc : World → Prop} {H : Nat} {w : World}
theorem PQ.allocA {B : Option Nat} (hst : ∀ w w', Below w.heap.size w w' → H ≤ w.heap.size → St w → St w') (hsc : ∀ w w', Below w.heap.size w w' → H ≤ w.heap.size → Sc w → Sc w') (h : PQ St Sc H none B w) :
    PQ St Sc H (some w.heap.size) B (w.alloc (.cells #[.int .u64 0, .string ⟨#[]⟩, .slice none 0 0, .int .i64 0, .int .i64 0] 66)) := by
  have e : Below w.heap.size w (w.alloc (.cells #[.int .u64 0, .string ⟨#[]⟩, .slice none 0 0, .int .i64 0, .int .i64 0] 66)) := (Below.refl _ _).alloc (Nat.le_refl _) _
  refine ⟨hst _ _ e h.sz h.st, hsc _ _ e h.sz h.sc, fun a ha => ?_, h.lb.eff (Eff.of_below e (fun _ => False)) (fun _ _ f => f), fun a b ha hb => ?_, Nat.le_trans h.sz e.size⟩
  · injection ha with ha; subst ha; exact ⟨h.sz, heap_alloc_new w _⟩
  · injection ha with ha; subst ha; have := lt_of_heap (h.lb b hb).2; omega
theorem PQ.allocB {A : Option Nat} (hst : ∀ w w', Below w.heap.size w w' → H ≤ w.heap.size → St w → St w') (hsc : ∀ w w', Below w.heap.size w w' → H ≤ w.heap.size → Sc w → Sc w') (h : PQ St Sc H A none w) :
    PQ St Sc H A (some w.heap.size) (w.alloc (.cells #[.int .u64 0, .string ⟨#[]⟩, .slice none 0 0, .int .i64 0, .int .i64 0] 66)) := by
  have e : Below w.heap.size w (w.alloc (.cells #[.int .u64 0, .string ⟨#[]⟩, .slice none 0 0, .int .i64 0, .int .i64 0] 66)) := (Below.refl _ _).alloc (Nat.le_refl _) _
  refine ⟨hst _ _ e h.sz h.st, hsc _ _ e h.sz h.sc, h.la.eff (Eff.of_below e (fun _ => False)) (fun _ _ f => f), fun a ha => ?_, fun a b ha hb => ?_, Nat.le_trans h.sz e.size⟩
  · injection ha with ha; subst ha; exact ⟨h.sz, heap_alloc_new w _⟩
  · injection hb with hb; subst hb; have := lt_of_heap (h.la a ha).2; omega
end
/-- A store into a look's block leaves the state alone. -/
theorem RS.look {w w' : World} {B H0 pr pk pd pa : Nat} {p : Bool → Nat} {v x : Bool → Value} {bs : Bool → List UInt8} {k ka : Bool → Nat} {vb vi : Value} {lb li : List Value} (h : RS w B H0 pr pk pd pa p v x bs k ka vb vi lb li) {a : Nat} {cs : Array Value} (ha : w.heap[a]? = some (.cells cs 66 (0, 0))) (e : Eff (· = a) w w') : RS w' B H0 pr pk pd pa p v x bs k ka vb vi lb li := by
  have tF : ∀ {g : Nat} {cs' : Array Value} {t : TypeId} {fr : Nat × Nat}, w.heap[g]? = some (.cells cs' t fr) → t ≠ 66 → ¬ g = a := fun hg hn => blk_ne hg ha hn
  have tR : ∀ {t : TypeId} {ls : List Value} {C : Nat → List Value}, Rec w t ls C → t ≠ 66 → Rec w' t ls C := fun hrc hn => hrc.eff e (fun q hq => by
    obtain ⟨cs', hg⟩ := hrc.blk hq; exact tF hg hn)
  exact ⟨fun b => (h.rd b).eff e (fun q hq hf => by
    subst hf
    rcases hq with hq | hq
    · exact blk_ne ha (h.rd b).blk (by decide) hq
    · exact (h.rd b).own.ne_type ha (by decide) hq), h.pp, (e.block _ (lt_of_heap h.rr) (tF h.rr (by decide))).trans h.rr, (e.block _ (lt_of_heap h.dd) (tF h.dd (by decide))).trans h.dd, fun b => (h.da b).eff e (fun q hq hf => by subst hf; exact (h.da b).ne_type ha (by decide) hq), (e.block _ (lt_of_heap h.aa) (tF h.aa (by decide))).trans h.aa, h.ap,
    h.bk.eff e (fun q hq hf => by subst hf; exact h.bk.off ha (by decide) (by decide) (by decide) hq), by obtain ⟨C, h1, h2⟩ := h.rb; exact ⟨C, tR h1 (by decide), h2⟩, by obtain ⟨C, h1, h2⟩ := h.ri; exact ⟨C, tR h1 (by decide), h2⟩, h.hb, h.hi, h.lv, h.lx, h.la, h.n1, Nat.le_trans h.ph e.size⟩
/-- Behind the call over the Reader. -/
structure St1 (w0 : World) (B H0 pr pk pd pa : Nat) (p : Bool → Nat) (v x : Bool → Value) (bs : Bool → List UInt8) (k ka : Bool → Nat) (vl vb vi : Value) (lb li : List Value) (L : List Int) (w : World) : Prop where
  rs : RS w B H0 pr pk pd pa p v x bs k ka vb vi lb li
  ow : Own w B 3 vl (intL L)
  bl : Below B w0 w
/-- Behind the document's answer. -/
structure St2 (w0 : World) (B H0 pr pk pd pa : Nat) (p : Bool → Nat) (v x : Bool → Value) (bs : Bool → List UInt8) (k ka : Bool → Nat) (vl vb vi : Value) (lb li : List Value) (L : List Int) (vt : Value) (w : World) : Prop where
  s1 : St1 w0 B H0 pr pk pd pa p v x bs k ka vl vb vi lb li L w
  rt : Own w 0 3 vt (intL L)
section
variable {w0 : World} {B H0 pr pk pd pa : Nat} {p : Bool → Nat} {v x : Bool → Value} {bs : Bool → List UInt8} {k ka : Bool → Nat} {vl vb vi vt : Value} {lb li : List Value} {L : List Int}
theorem St1.under {w w' : World} (h : St1 w0 B H0 pr pk pd pa p v x bs k ka vl vb vi lb li L w) (e : Below w.heap.size w w') (hz : B ≤ w.heap.size) : St1 w0 B H0 pr pk pd pa p v x bs k ka vl vb vi lb li L w' :=
  ⟨h.rs.under e, h.ow.below e (Nat.le_refl _), h.bl.trans (e.mono hz)⟩
theorem St2.under {w w' : World} (h : St2 w0 B H0 pr pk pd pa p v x bs k ka vl vb vi lb li L vt w) (e : Below w.heap.size w w') (hz : B ≤ w.heap.size) : St2 w0 B H0 pr pk pd pa p v x bs k ka vl vb vi lb li L vt w' :=
  ⟨h.s1.under e hz, h.rt.below e (Nat.le_refl _)⟩
/-- A look is laid into its block. -/
theorem St2.put {w w' : World} (h : St2 w0 B H0 pr pk pd pa p v x bs k ka vl vb vi lb li L vt w) {a : Nat} {cs : Array Value} (ha : w.heap[a]? = some (.cells cs 66 (0, 0))) (e : Eff (· = a) w w') (hB : B ≤ a) (hz : B ≤ w.heap.size) : St2 w0 B H0 pr pk pd pa p v x bs k ka vl vb vi lb li L vt w' :=
  ⟨⟨h.s1.rs.look ha e, h.s1.ow.eff e (fun q hq hf => by subst hf; exact h.s1.ow.ne_type ha (by decide) hq), h.s1.bl.trans (e.below (fun i hi => by rw [hi]; exact hB) hz)⟩, h.rt.eff e (fun q hq hf => by subst hf; exact h.rt.ne_type ha (by decide) hq)⟩
end

section
variable {w W : World} {EA : Nat → Addr} {H0 pr pk pd pa : Nat} {p : Bool → Nat} {v x : Bool → Value} {bs : Bool → List UInt8} {k : Bool → Nat} {vb vi : Value} {lb li : List Value}
/-- The call over the Reader, in whatever state of the statement. -/
theorem asked_pq (hS : Sent w EA) (hG : GLow w.heap.size) (hbb : Below w.heap.size w W) (hrs : RS W w.heap.size H0 pr pk pd pa p v x bs k k vb vi lb li) (sec : Bool) (kd n u ii : Int) (hn0 : -9223372036854775808 ≤ n) (hn1 : n ≤ 9223372036854775807) (hl : (bs sec).length ≤ 1048576) (hlb : lb.length ≤ 1048576) (hli : li.length ≤ 1048576)
    (O kk : Nat) (ba : Option Addr) (bn bc : Nat) (os : ByteArray) (la : Option Addr) (ln lc : Nat) (ax : Option Addr) (nx cx K : Nat) (cO : Array Value) (hOB : W.heap[O]? = some (.cells cO 46 (0, 0))) (A B : Option Nat) (W' : World)
    (h : PQ (fun X => Below W.heap.size W X) (SRd O pd pa kk kd sec n u ii ba bn bc os la ln lc ax nx cx K) W.heap.size A B W') :
    Calls Tryd.prog 32 #[.pointer (some ⟨p sec, 0, none⟩), .agg #[.int .i64 kd, .bool sec, .int .i64 n, .int .u64 u, .int .i64 ii, .slice ba bn bc, .string os, .slice la ln lc], .pointer (some ⟨pk, 0, none⟩)] W' fun e wa =>
      ∃ aa na ca vb' vi' lb' li', e = .returned (.agg #[.int .u64 (looks kd n ((bs sec).drop (k sec)) (k sec)).u, .string (strOf (looks kd n ((bs sec).drop (k sec)) (k sec)).s), .slice aa na ca, .int .i64 (looks kd n ((bs sec).drop (k sec)) (k sec)).next, .int .i64 (looks kd n ((bs sec).drop (k sec)) (k sec)).e]) ∧ lb'.length ≤ lb.length + 1 ∧ li'.length ≤ li.length + 1 ∧
        PQ (St1 w w.heap.size H0 pr pk pd pa p v x bs (updR k sec (looks kd n ((bs sec).drop (k sec)) (k sec)).next) k (.slice aa na ca) vb' vi' lb' li' (looks kd n ((bs sec).drop (k sec)) (k sec)).l) (SRd O pd pa kk kd sec n u ii ba bn bc os la ln lc ax nx cx K) W.heap.size A B wa := by
  have hz := hbb.size
  have hw : Below W.heap.size W W' := h.st
  have hrs' := hrs.under hw
  have hrd := hrs'.rd sec
  refine (asked_any w W' w.heap.size (p sec) pk (v sec) (bs sec) vb vi lb li (k sec) EA hS (Nat.le_refl _) (Nat.le_trans hz hw.size) (hbb.trans (hw.mono hz)) hrd hrs'.bk (by omega) (by omega) (by omega) hG _ _ _ _ kd n u ii hn0 hn1).mono ?_
  rintro e wa ⟨va, vb', vi', lb', li', he, hoa, hra, hbka, ea, fba, fia, aba, aia⟩
  obtain ⟨aa, na, ca, rfl⟩ := own_sl hoa
  have tF : ∀ {g : Nat} {cs : Array Value} {t : TypeId}, W'.heap[g]? = some (.cells cs t (0, 0)) → t ≠ 62 → t ≠ 43 → 37 ≠ t → 23 ≠ t → ¬ (g = p sec ∨ BkB pk vb vi g) := by
    rintro g cs t hg h1 h2 h3 h4 (hf | hf)
    · exact blk_ne hg hrd.blk h1 hf
    · exact hrs'.bk.off hg h2 h3 h4 hf
  have hO' := (hw.block O (lt_of_heap hOB)).trans hOB
  have hoD : ¬ (pd = p sec ∨ BkB pk vb vi pd) := by
    rintro (hf | hf | hf | hf)
    · exact blk_ne hrs'.dd hrd.blk (by decide) hf
    · exact blk_ne hrs'.dd hrs'.bk.blk (by decide) hf
    · exact hrs'.n1 hf
    · exact hrs'.bk.oi.ne_type hrs'.dd (by decide) hf
  have hlen : ∀ {t : TypeId} {N : Nat} {l l' : List Value}, AddB W' wa t N l l' → l'.length ≤ l.length + 1 := by
    rintro t N l l' (rfl | ⟨y, ys, rfl, _, _⟩)
    · omega
    · simp
  refine ⟨aa, na, ca, vb', vi', lb', li', he, hlen aba, hlen aia, ⟨hrs'.asked hra hbka ea fba (by omega) (by omega) aba aia, own_base hoa (Nat.le_trans hz hw.size), (hbb.trans (hw.mono hz)).trans (ea.below (fun i hi => by
    rcases hi with hi | hi
    · rw [hi]; exact hrd.hp
    · exact (hrs'.bk.ge i hi).1) (Nat.le_trans hz hw.size))⟩, h.sc.eff ea (tF hO' (by decide) (by decide) (by decide) (by decide)) hoD (tF hrs'.aa (by decide) (by decide) (by decide) (by decide)),
    h.la.eff ea (fun a ha => tF (h.la a ha).2 (by decide) (by decide) (by decide) (by decide)), h.lb.eff ea (fun a ha => tF (h.lb a ha).2 (by decide) (by decide) (by decide) (by decide)), h.ne, Nat.le_trans h.sz ea.size⟩
/-- The document's answer, in whatever state of the statement behind the call. -/
theorem told_pq {kN : Bool → Nat} {vl vb' vi' : Value} {lb' li' : List Value} {H : Nat} (hz : w.heap.size ≤ H) (sec : Bool) (kd n u ii : Int) (hn0 : -9223372036854775808 ≤ n) (hn1 : n ≤ 9223372036854775807) (hl : (bs sec).length ≤ 1048576) (hk : k sec ≤ (bs sec).length)
    (O kk : Nat) (ba : Option Addr) (bn bc : Nat) (os : ByteArray) (la : Option Addr) (ln lc : Nat) (ax : Option Addr) (cx K : Nat) (hx : x sec = .slice ax (bs sec).length cx) (A B : Option Nat) (W' : World)
    (h : PQ (St1 w w.heap.size H0 pr pk pd pa p v x bs kN k vl vb' vi' lb' li' (looks kd n ((bs sec).drop (k sec)) (k sec)).l) (SRd O pd pa kk kd sec n u ii ba bn bc os la ln lc ax (bs sec).length cx K) H A B W') :
    Calls Tryd.prog 33 #[.slice ax (bs sec).length cx, .int .i64 (k sec), .agg #[.int .i64 kd, .bool sec, .int .i64 n, .int .u64 u, .int .i64 ii, .slice ba bn bc, .string os, .slice la ln lc]] W' fun e wt =>
      ∃ aa na ca, e = .returned (.agg #[.int .u64 (looks kd n ((bs sec).drop (k sec)) (k sec)).u, .string (strOf (looks kd n ((bs sec).drop (k sec)) (k sec)).s), .slice aa na ca, .int .i64 (looks kd n ((bs sec).drop (k sec)) (k sec)).next, .int .i64 (looks kd n ((bs sec).drop (k sec)) (k sec)).e]) ∧
        PQ (St2 w w.heap.size H0 pr pk pd pa p v x bs kN k vl vb' vi' lb' li' (looks kd n ((bs sec).drop (k sec)) (k sec)).l (.slice aa na ca)) (SRd O pd pa kk kd sec n u ii ba bn bc os la ln lc ax (bs sec).length cx K) H A B wt := by
  have hda := h.st.rs.da sec
  rw [hx] at hda
  refine (told_any W' _ ax cx (bs sec) hda (by omega) (k sec) hk _ _ _ _ kd n u ii hn0 hn1).mono ?_
  rintro e wt ⟨vt, he, hot, hbt⟩
  obtain ⟨aa, na, ca, rfl⟩ := own_sl hot
  exact ⟨aa, na, ca, he, ⟨h.st.under hbt (Nat.le_trans hz h.sz), hot⟩, h.sc.eff (Eff.of_below hbt (fun _ => False)) (fun f => f) (fun f => f) (fun f => f), h.la.eff (Eff.of_below hbt (fun _ => False)) (fun _ _ f => f), h.lb.eff (Eff.of_below hbt (fun _ => False)) (fun _ _ f => f), h.ne, Nat.le_trans h.sz hbt.size⟩
end
theorem look_laid {w : World} {a : Nat} {d0 d1 d2 d3 d4 : Value} (h : w.heap[a]? = some (.cells #[d0, d1, d2, d3, d4] 66 (0, 0))) (c0 c1 c2 c3 c4 : Value) :
    (((((w.setCell ⟨a, 0, none⟩ c0).setCell ⟨a, 1, none⟩ c1).setCell ⟨a, 2, none⟩ c2).setCell ⟨a, 3, none⟩ c3).setCell ⟨a, 4, none⟩ c4).heap[a]? = some (.cells #[c0, c1, c2, c3, c4] 66 (0, 0)) ∧
    Eff (· = a) w (((((w.setCell ⟨a, 0, none⟩ c0).setCell ⟨a, 1, none⟩ c1).setCell ⟨a, 2, none⟩ c2).setCell ⟨a, 3, none⟩ c3).setCell ⟨a, 4, none⟩ c4) :=
  ⟨by rw [blk_set (blk_set (blk_set (blk_set (blk_set h 0 c0) 1 c1) 2 c2) 3 c3) 4 c4]; rfl, (((((Eff.refl (· = a) w).setCell (p := ⟨a, 0, none⟩) (fun _ => rfl) _).setCell (p := ⟨a, 1, none⟩) (fun _ => rfl) _).setCell (p := ⟨a, 2, none⟩) (fun _ => rfl) _).setCell (p := ⟨a, 3, none⟩) (fun _ => rfl) _).setCell (p := ⟨a, 4, none⟩) (fun _ => rfl) _⟩
end Go.Proofs.YtmmflhippbegaaaDoor
