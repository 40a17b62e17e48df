/- The model package's walk: a part's do, at each kind of operation. | The model package's walk: a part's do, at each kind of operation (printed by gen_modo.py). | The model package's walk: a part's do, at each kind of operation, the rest (printed by gen_modo.py). -/
import Derived.Test.YtagmkkddjdlncaaDoorModC
import Derived.Laws.ResultCell
set_option linter.unusedVariables false
set_option linter.unusedSimpArgs false
/-! The model package's walk: a part's do, at each kind of operation. -/
namespace Go.Proofs.YtagmkkddjdlncaaDoor
open Go.RowKit Go.ChangeMaps
theorem kset (w : World) (b i : Nat) (v : Value) : Keeps (fun x => x = b) w (w.setCell ⟨b, i, none⟩ v) := (Keeps.refl _ _).setCell _ _ (.inl rfl)
theorem set6 {w : World} {b : Nat} {x0 x1 x2 x3 x4 x5 : Value} {t : TypeId} (h : w.heap[b]? = some (.cells #[x0, x1, x2, x3, x4, x5] t (0, 0))) (y0 y1 y2 y3 y4 y5 : Value) :
    ((((((w.setCell ⟨b, 0, none⟩ y0).setCell ⟨b, 1, none⟩ y1).setCell ⟨b, 2, none⟩ y2).setCell ⟨b, 3, none⟩ y3).setCell ⟨b, 4, none⟩ y4).setCell ⟨b, 5, none⟩ y5).heap[b]? = some (.cells #[y0, y1, y2, y3, y4, y5] t (0, 0)) := by
  have h0 := set_of h 0 y0
  have h1 := set_of h0 1 y1
  have h2 := set_of h1 2 y2
  have h3 := set_of h2 3 y3
  have h4 := set_of h3 4 y4
  exact set_of h4 5 y5
theorem six_cells {w : World} {b : Nat} {x0 x1 x2 x3 x4 x5 : Value} {t : TypeId} (h : w.heap[b]? = some (.cells #[x0, x1, x2, x3, x4, x5] t (0, 0))) :
    (w.cell? ⟨b, 0, none⟩ = some x0 ∧ w.cell? ⟨b, 1, none⟩ = some x1 ∧ w.cell? ⟨b, 2, none⟩ = some x2 ∧ w.cell? ⟨b, 3, none⟩ = some x3 ∧ w.cell? ⟨b, 4, none⟩ = some x4 ∧ w.cell? ⟨b, 5, none⟩ = some x5) ∧
    (w.frozen? ⟨b, 0, none⟩ = false ∧ w.frozen? ⟨b, 1, none⟩ = false ∧ w.frozen? ⟨b, 2, none⟩ = false ∧ w.frozen? ⟨b, 3, none⟩ = false ∧ w.frozen? ⟨b, 4, none⟩ = false ∧ w.frozen? ⟨b, 5, none⟩ = false) :=
  ⟨⟨cell_of h 0 rfl, cell_of h 1 rfl, cell_of h 2 rfl, cell_of h 3 rfl, cell_of h 4 rfl, cell_of h 5 rfl⟩, free_of h 0, free_of h 1, free_of h 2, free_of h 3, free_of h 4, free_of h 5⟩
namespace Mo
/-- An answer's cells. -/
def acells (a : XAns) : Array Value := #[.int .i64 a.err, .int .u64 a.handle, .int .i64 a.addr, .int .i64 a.n, .string a.data, .int .i64 a.charged]
/-- What do leaves: the answer, the part. -/
def DoR (w : World) (p : Plc) (g : Int → Rw) (P : PP) (a : XAns) (P' : PP) (e : Ending) (w' : World) : Prop := e = .returned (.agg a.enc.toArray) ∧ PR w p g P P' w'
/-- A part's steps beside a block B of the call's own (w0: the world ahead of it). -/
def PB (w0 : World) (B : Nat) (p : Plc) (g : Int → Rw) (P : PP) (g' : Int → Rw) (P' : PP) (w' : World) : Prop := PAt w' p g' P' ∧ Keeps (Fp p g P.E) w0 w' ∧ (∀ i, Fp p g' P'.E i → Fp p g P.E i ∨ (w0.heap.size ≤ i ∧ i ≠ B)) ∧ w0.heap.size ≤ B ∧ ¬ Fp p g P.E B ∧ B < w'.heap.size
theorem PB.start {w0 w : World} {B : Nat} {p : Plc} {g : Int → Rw} {P : PP} (H : PAt w0 p g P) (k : Keeps (fun _ => False) w0 w) (h1 : w0.heap.size ≤ B) (h2 : B < w.heap.size) : PB w0 B p g P g P w :=
  ⟨H.old k, k.mono (fun _ _ x => x.elim), fun _ h => .inl h, h1, fun h => by have := H.lt h; omega, h2⟩
theorem PB.nf {w0 w : World} {B : Nat} {p : Plc} {g g1 : Int → Rw} {P P1 : PP} (h : PB w0 B p g P g1 P1 w) : ¬ Fp p g1 P1.E B := by
  obtain ⟨A, K, F, h1, h2, h3⟩ := h
  intro hx
  rcases F _ hx with h | ⟨_, h⟩
  · exact h2 h
  · exact h rfl
theorem PB.step {w0 w w2 : World} {B : Nat} {p : Plc} {g g1 g2 : Int → Rw} {P P1 P2 : PP} (h : PB w0 B p g P g1 P1 w) (r : PRG w p g1 P1 g2 P2 w2) : PB w0 B p g P g2 P2 w2 := by
  obtain ⟨A, K, F, h1, h2, h3⟩ := h
  obtain ⟨A2, K2, F2⟩ := r
  refine ⟨A2, K.trans' K2 (fun x hx hl => ?_), fun i hi => ?_, h1, h2, Nat.lt_of_lt_of_le h3 K2.size⟩
  · rcases F x hx with h | ⟨h, _⟩
    · exact h
    · omega
  · rcases F2 i hi with h | h
    · exact F i h
    · exact .inr ⟨Nat.le_trans K.size h, by omega⟩
theorem PB.old {w0 w w2 : World} {B : Nat} {p : Plc} {g g1 : Int → Rw} {P P1 : PP} (h : PB w0 B p g P g1 P1 w) (k : Keeps (fun _ => False) w w2) : PB w0 B p g P g1 P1 w2 :=
  h.step ⟨h.1.old k, k.mono (fun _ _ x => x.elim), fun _ h => .inl h⟩
theorem PB.set {w0 w w2 : World} {B : Nat} {p : Plc} {g g1 : Int → Rw} {P P1 : PP} (h : PB w0 B p g P g1 P1 w) (k : Keeps (fun x => x = B) w w2) : PB w0 B p g P g1 P1 w2 := by
  have hn := h.nf
  obtain ⟨A, K, F, h1, h2, h3⟩ := h
  refine ⟨A.keep k (fun x hx e => hn (e ▸ hx)), K.trans' k (fun x hx hl => ?_), F, h1, h2, Nat.lt_of_lt_of_le h3 k.size⟩
  subst hx
  omega
theorem PB.pr {w0 w : World} {B : Nat} {p : Plc} {g g1 : Int → Rw} {P P1 : PP} (h : PB w0 B p g P g1 P1 w) : PR w0 p g P P1 w := by
  obtain ⟨A, K, F, h1, h2, h3⟩ := h
  refine ⟨g1, A, K, fun i hi => ?_⟩
  rcases F i hi with h | ⟨h, _⟩
  · exact .inl h
  · exact .inr h
end Mo
end Go.Proofs.YtagmkkddjdlncaaDoor

/-! The model package's walk: a part's do, at each kind of operation (printed by gen_modo.py). -/
namespace Go.Proofs.YtagmkkddjdlncaaDoor
open Go.RowKit Go.ChangeMaps
namespace Mo

set_option maxRecDepth 100000 in
set_option maxHeartbeats 2000000 in
theorem do_4 (w : World) (p : Plc) (g : Int → Rw) (P : PP) (t n m : Int) (h : Nat) (d : Bs) (H : PAt w p g P) (ok : Ok P) (hT : Sh.Tab w) (hh : h < 18446744073709551616) (hd : d.length ≤ 8192) (hn : -9223372036854775808 ≤ n ∧ n ≤ 9223372036854775807) (hm : -9223372036854775808 ≤ m ∧ m ≤ 9223372036854775807) :
    Calls Tryd.prog 19 #[.pointer (some ⟨p.b, 0, none⟩), .agg #[.int .i64 4, .int .i64 t, .int .i64 n, .int .i64 m, .int .u64 h, .string (bs d)]] w (DoR w p g P (pdo P 4 n m h d).1 (pdo P 4 n m h d).2) := by
  have e : pdo P 4 n m h d = (⟨(mk P n).1.2, (mk P n).1.1, 0, 0, bs [], 0⟩, (mk P n).2) := by unfold pdo; rw [if_pos rfl]
  rw [e]
  obtain ⟨A, hA⟩ : ∃ A, w.heap.size = A := ⟨_, rfl⟩
  obtain ⟨w1, hw1⟩ : ∃ w1, w.alloc (.cells #[.int .i64 4, .int .i64 t, .int .i64 n, .int .i64 m, .int .u64 h, .string (bs d)] 34) = w1 := ⟨_, rfl⟩
  obtain ⟨B, hB⟩ : ∃ B, w1.heap.size = B := ⟨_, rfl⟩
  obtain ⟨w2, hw2⟩ : ∃ w2, w1.alloc (.cells #[.int .i64 0, .int .u64 0, .int .i64 0, .int .i64 0, .string ⟨#[]⟩, .int .i64 0] 36) = w2 := ⟨_, rfl⟩
  have k1 : Keeps (fun _ => False) w w1 := by rw [← hw1]; exact (Keeps.refl _ _).alloc _
  have k2' : Keeps (fun _ => False) w1 w2 := by rw [← hw2]; exact (Keeps.refl _ _).alloc _
  have k2 := k1.trans k2'
  have a1 : w1.heap[A]? = some (.cells #[.int .i64 4, .int .i64 t, .int .i64 n, .int .i64 m, .int .u64 h, .string (bs d)] 34 (0, 0)) := by rw [← hw1, ← hA]; exact alloc_new _ _
  have a2 := k2'.at a1 (fun x => x)
  have b2 : w2.heap[B]? = some (.cells (acells ⟨0, 0, 0, 0, bs [], 0⟩) 36 (0, 0)) := by rw [← hw2, ← hB]; exact alloc_new _ _
  have hBw : w.heap.size ≤ B := by have := k1.size; omega
  have hAB : A < B := by have := lt_of a1; omega
  have H2 := H.old k2
  have T2 := hT.old k2
  have nfB : ¬ Fp p g P.E B := fun hx => by have := H.lt hx; omega
  have nfA : ¬ Fp p g P.E A := fun hx => by have := H.lt hx; omega
  obtain ⟨x0, x1, x2, x3, x4, x5⟩ := (six_cells a2).1
  have P2 := PB.start H k2 hBw (lt_of b2)
  have hAf := Hid.of (And.intro a2 (And.intro nfA hAB))
  have HB0 := Hid.of (And.intro b2 P2)
  have HH2 := Hid.of (And.intro H2 T2)
  clear k1 k2' a1 a2 b2 hBw nfB nfA H hT k2 hAB P2
  have q := make_any w2 p g P n HH2.out.1 ok HH2.out.2
  generalize (mk P n).2 = P' at q ⊢
  generalize (mk P n).1 = r at q ⊢
  obtain ⟨rh, rE⟩ := r
  dsimp only at q ⊢
  clear e ok
  go_enter Tryd.func19, Tryd.ntmps19
  go_wp2_with fail
  refine q.mono ?_
  rintro e w3 ⟨rfl, g3, r3, G3⟩
  have P3 := HB0.out.2.step r3
  have b3 := r3.2.1.at HB0.out.1 HB0.out.2.nf
  obtain ⟨⟨d0, d1, -, -, -, -⟩, g0, g1, -, -, -, -⟩ := six_cells b3
  obtain ⟨w4, hw4⟩ : ∃ w4, (w3.setCell ⟨B, 1, none⟩ (.int .u64 rh)).setCell ⟨B, 0, none⟩ (.int .i64 rE) = w4 := ⟨_, rfl⟩
  have b4 : w4.heap[B]? = some (.cells (acells ⟨rE, rh, 0, 0, bs [], 0⟩) 36 (0, 0)) := by rw [← hw4]; exact set_of (set_of b3 1 _) 0 _
  have k4 : Keeps (fun x => x = B) w3 w4 := by rw [← hw4]; exact (kset _ B 1 _).trans (kset _ B 0 _)
  have bb := b4
  obtain ⟨⟨c0, c1, c2, c3, c4, c5⟩, f0, f1, f2, f3, f4, f5⟩ := six_cells bb
  obtain ⟨wf, hwf⟩ : ∃ wf, (((((w4.setCell ⟨B, 0, none⟩ (.int .i64 rE)).setCell ⟨B, 1, none⟩ (.int .u64 rh)).setCell ⟨B, 2, none⟩ (.int .i64 0)).setCell ⟨B, 3, none⟩ (.int .i64 0)).setCell ⟨B, 4, none⟩ (.string (bs []))).setCell ⟨B, 5, none⟩ (.int .i64 0) = wf := ⟨_, rfl⟩
  have bf := set6 bb (.int .i64 rE) (.int .u64 rh) (.int .i64 0) (.int .i64 0) (.string (bs [])) (.int .i64 0)
  rw [hwf] at bf
  have kf : Keeps (fun x => x = B) w4 wf := by rw [← hwf]; exact (((((kset _ B 0 _).trans (kset _ B 1 _)).trans (kset _ B 2 _)).trans (kset _ B 3 _)).trans (kset _ B 4 _)).trans (kset _ B 5 _)
  have HF := Hid.of ((P3.set (k4.trans kf)).pr)
  obtain ⟨⟨e0, e1, e2, e3, e4, e5⟩, -⟩ := six_cells bf
  clear q r3 G3 b3 b4 k4 bb bf kf P3
  go_wp2
  refine bodyPost_ret (v := .agg #[.int .i64 rE, .int .u64 rh, .int .i64 0, .int .i64 0, .string (bs []), .int .i64 0]) ?_ ?_ ?_
  · simp [results, Tryd.results19, go_sem, e0, e1, e2, e3, e4, e5]
  · rfl
  · exact ⟨rfl, HF.out⟩

set_option maxRecDepth 100000 in
set_option maxHeartbeats 2000000 in
theorem do_5 (w : World) (p : Plc) (g : Int → Rw) (P : PP) (t n m : Int) (h : Nat) (d : Bs) (H : PAt w p g P) (ok : Ok P) (hT : Sh.Tab w) (hh : h < 18446744073709551616) (hd : d.length ≤ 8192) (hn : -9223372036854775808 ≤ n ∧ n ≤ 9223372036854775807) (hm : -9223372036854775808 ≤ m ∧ m ≤ 9223372036854775807) (hc : Op1.chk ⟨5, t, n, m, h, bs d⟩ = 0) :
    Calls Tryd.prog 19 #[.pointer (some ⟨p.b, 0, none⟩), .agg #[.int .i64 5, .int .i64 t, .int .i64 n, .int .i64 m, .int .u64 h, .string (bs d)]] w (DoR w p g P (pdo P 5 n m h d).1 (pdo P 5 n m h d).2) := by
  have e : pdo P 5 n m h d = (⟨(mk P (Op1.asks n m)).1.2, (mk P (Op1.asks n m)).1.1, 0, 0, bs [], 0⟩, (mk P (Op1.asks n m)).2) := by unfold pdo; rw [if_neg (by decide), if_pos rfl]
  rw [e]
  obtain ⟨A, hA⟩ : ∃ A, w.heap.size = A := ⟨_, rfl⟩
  obtain ⟨w1, hw1⟩ : ∃ w1, w.alloc (.cells #[.int .i64 5, .int .i64 t, .int .i64 n, .int .i64 m, .int .u64 h, .string (bs d)] 34) = w1 := ⟨_, rfl⟩
  obtain ⟨B, hB⟩ : ∃ B, w1.heap.size = B := ⟨_, rfl⟩
  obtain ⟨w2, hw2⟩ : ∃ w2, w1.alloc (.cells #[.int .i64 0, .int .u64 0, .int .i64 0, .int .i64 0, .string ⟨#[]⟩, .int .i64 0] 36) = w2 := ⟨_, rfl⟩
  have k1 : Keeps (fun _ => False) w w1 := by rw [← hw1]; exact (Keeps.refl _ _).alloc _
  have k2' : Keeps (fun _ => False) w1 w2 := by rw [← hw2]; exact (Keeps.refl _ _).alloc _
  have k2 := k1.trans k2'
  have a1 : w1.heap[A]? = some (.cells #[.int .i64 5, .int .i64 t, .int .i64 n, .int .i64 m, .int .u64 h, .string (bs d)] 34 (0, 0)) := by rw [← hw1, ← hA]; exact alloc_new _ _
  have a2 := k2'.at a1 (fun x => x)
  have b2 : w2.heap[B]? = some (.cells (acells ⟨0, 0, 0, 0, bs [], 0⟩) 36 (0, 0)) := by rw [← hw2, ← hB]; exact alloc_new _ _
  have hBw : w.heap.size ≤ B := by have := k1.size; omega
  have hAB : A < B := by have := lt_of a1; omega
  have H2 := H.old k2
  have T2 := hT.old k2
  have nfB : ¬ Fp p g P.E B := fun hx => by have := H.lt hx; omega
  have nfA : ¬ Fp p g P.E A := fun hx => by have := H.lt hx; omega
  obtain ⟨x0, x1, x2, x3, x4, x5⟩ := (six_cells a2).1
  have P2 := PB.start H k2 hBw (lt_of b2)
  have hAf := Hid.of (And.intro a2 (And.intro nfA hAB))
  have HB0 := Hid.of (And.intro b2 P2)
  have HH2 := Hid.of (And.intro H2 T2)
  clear k1 k2' a1 a2 b2 hBw nfB nfA H hT k2 hAB P2
  have qa := Op1.asks_any w2 ⟨5, t, n, m, h, bs d⟩ (by rw [bs_size]; unfold maxLen; omega) rfl hc
  unfold XOp.enc at qa
  dsimp only at qa
  generalize Op1.asks n m = z at qa ⊢
  have q := fun wx (k : Keeps (fun _ => False) w2 wx) => make_any wx p g P z (HH2.out.1.old k) ok (HH2.out.2.old k)
  generalize (mk P z).2 = P' at q ⊢
  generalize (mk P z).1 = r at q ⊢
  obtain ⟨rh, rE⟩ := r
  dsimp only at q ⊢
  have HQ := Hid.of q
  clear e ok q hc
  go_enter Tryd.func19, Tryd.ntmps19
  go_wp2_with fail
  refine qa.mono ?_
  rintro e w2' ⟨rfl, k2⟩
  have q := HQ.out w2' k2
  have HK := Hid.of k2
  clear qa k2 HQ
  go_wp2_with fail
  refine q.mono ?_
  rintro e w3 ⟨rfl, g3, r3, G3⟩
  have P3 := (HB0.out.2.old HK.out).step r3
  have b3 := r3.2.1.at (HK.out.at HB0.out.1 (fun x => x)) HB0.out.2.nf
  obtain ⟨⟨d0, d1, -, -, -, -⟩, g0, g1, -, -, -, -⟩ := six_cells b3
  obtain ⟨w4, hw4⟩ : ∃ w4, (w3.setCell ⟨B, 1, none⟩ (.int .u64 rh)).setCell ⟨B, 0, none⟩ (.int .i64 rE) = w4 := ⟨_, rfl⟩
  have b4 : w4.heap[B]? = some (.cells (acells ⟨rE, rh, 0, 0, bs [], 0⟩) 36 (0, 0)) := by rw [← hw4]; exact set_of (set_of b3 1 _) 0 _
  have k4 : Keeps (fun x => x = B) w3 w4 := by rw [← hw4]; exact (kset _ B 1 _).trans (kset _ B 0 _)
  have bb := b4
  obtain ⟨⟨c0, c1, c2, c3, c4, c5⟩, f0, f1, f2, f3, f4, f5⟩ := six_cells bb
  obtain ⟨wf, hwf⟩ : ∃ wf, (((((w4.setCell ⟨B, 0, none⟩ (.int .i64 rE)).setCell ⟨B, 1, none⟩ (.int .u64 rh)).setCell ⟨B, 2, none⟩ (.int .i64 0)).setCell ⟨B, 3, none⟩ (.int .i64 0)).setCell ⟨B, 4, none⟩ (.string (bs []))).setCell ⟨B, 5, none⟩ (.int .i64 0) = wf := ⟨_, rfl⟩
  have bf := set6 bb (.int .i64 rE) (.int .u64 rh) (.int .i64 0) (.int .i64 0) (.string (bs [])) (.int .i64 0)
  rw [hwf] at bf
  have kf : Keeps (fun x => x = B) w4 wf := by rw [← hwf]; exact (((((kset _ B 0 _).trans (kset _ B 1 _)).trans (kset _ B 2 _)).trans (kset _ B 3 _)).trans (kset _ B 4 _)).trans (kset _ B 5 _)
  have HF := Hid.of ((P3.set (k4.trans kf)).pr)
  obtain ⟨⟨e0, e1, e2, e3, e4, e5⟩, -⟩ := six_cells bf
  clear q r3 G3 b3 b4 k4 bb bf kf P3
  go_wp2
  refine bodyPost_ret (v := .agg #[.int .i64 rE, .int .u64 rh, .int .i64 0, .int .i64 0, .string (bs []), .int .i64 0]) ?_ ?_ ?_
  · simp [results, Tryd.results19, go_sem, e0, e1, e2, e3, e4, e5]
  · rfl
  · exact ⟨rfl, HF.out⟩

set_option maxRecDepth 100000 in
set_option maxHeartbeats 2000000 in
theorem do_7 (w : World) (p : Plc) (g : Int → Rw) (P : PP) (t n m : Int) (h : Nat) (d : Bs) (H : PAt w p g P) (ok : Ok P) (hT : Sh.Tab w) (hh : h < 18446744073709551616) (hd : d.length ≤ 8192) (hn : -9223372036854775808 ≤ n ∧ n ≤ 9223372036854775807) (hm : -9223372036854775808 ≤ m ∧ m ≤ 9223372036854775807) :
    Calls Tryd.prog 19 #[.pointer (some ⟨p.b, 0, none⟩), .agg #[.int .i64 7, .int .i64 t, .int .i64 n, .int .i64 m, .int .u64 h, .string (bs d)]] w (DoR w p g P (pdo P 7 n m h d).1 (pdo P 7 n m h d).2) := by
  have e : pdo P 7 n m h d = (⟨(realloc P h n).1.2, (realloc P h n).1.1, 0, 0, bs [], 0⟩, (realloc P h n).2) := by unfold pdo; rw [if_neg (by decide), if_neg (by decide), if_neg (by decide), if_pos rfl]
  rw [e]
  obtain ⟨A, hA⟩ : ∃ A, w.heap.size = A := ⟨_, rfl⟩
  obtain ⟨w1, hw1⟩ : ∃ w1, w.alloc (.cells #[.int .i64 7, .int .i64 t, .int .i64 n, .int .i64 m, .int .u64 h, .string (bs d)] 34) = w1 := ⟨_, rfl⟩
  obtain ⟨B, hB⟩ : ∃ B, w1.heap.size = B := ⟨_, rfl⟩
  obtain ⟨w2, hw2⟩ : ∃ w2, w1.alloc (.cells #[.int .i64 0, .int .u64 0, .int .i64 0, .int .i64 0, .string ⟨#[]⟩, .int .i64 0] 36) = w2 := ⟨_, rfl⟩
  have k1 : Keeps (fun _ => False) w w1 := by rw [← hw1]; exact (Keeps.refl _ _).alloc _
  have k2' : Keeps (fun _ => False) w1 w2 := by rw [← hw2]; exact (Keeps.refl _ _).alloc _
  have k2 := k1.trans k2'
  have a1 : w1.heap[A]? = some (.cells #[.int .i64 7, .int .i64 t, .int .i64 n, .int .i64 m, .int .u64 h, .string (bs d)] 34 (0, 0)) := by rw [← hw1, ← hA]; exact alloc_new _ _
  have a2 := k2'.at a1 (fun x => x)
  have b2 : w2.heap[B]? = some (.cells (acells ⟨0, 0, 0, 0, bs [], 0⟩) 36 (0, 0)) := by rw [← hw2, ← hB]; exact alloc_new _ _
  have hBw : w.heap.size ≤ B := by have := k1.size; omega
  have hAB : A < B := by have := lt_of a1; omega
  have H2 := H.old k2
  have T2 := hT.old k2
  have nfB : ¬ Fp p g P.E B := fun hx => by have := H.lt hx; omega
  have nfA : ¬ Fp p g P.E A := fun hx => by have := H.lt hx; omega
  obtain ⟨x0, x1, x2, x3, x4, x5⟩ := (six_cells a2).1
  have P2 := PB.start H k2 hBw (lt_of b2)
  have hAf := Hid.of (And.intro a2 (And.intro nfA hAB))
  have HB0 := Hid.of (And.intro b2 P2)
  have HH2 := Hid.of (And.intro H2 T2)
  clear k1 k2' a1 a2 b2 hBw nfB nfA H hT k2 hAB P2
  have q := realloc_any w2 p g P h n HH2.out.1 ok HH2.out.2 hh
  generalize (realloc P h n).2 = P' at q ⊢
  generalize (realloc P h n).1 = r at q ⊢
  obtain ⟨rh, rE⟩ := r
  dsimp only at q ⊢
  clear e ok
  go_enter Tryd.func19, Tryd.ntmps19
  go_wp2_with fail
  refine q.mono ?_
  rintro e w3 ⟨rfl, g3, r3⟩
  have P3 := HB0.out.2.step r3
  have b3 := r3.2.1.at HB0.out.1 HB0.out.2.nf
  obtain ⟨⟨d0, d1, -, -, -, -⟩, g0, g1, -, -, -, -⟩ := six_cells b3
  obtain ⟨w4, hw4⟩ : ∃ w4, (w3.setCell ⟨B, 1, none⟩ (.int .u64 rh)).setCell ⟨B, 0, none⟩ (.int .i64 rE) = w4 := ⟨_, rfl⟩
  have b4 : w4.heap[B]? = some (.cells (acells ⟨rE, rh, 0, 0, bs [], 0⟩) 36 (0, 0)) := by rw [← hw4]; exact set_of (set_of b3 1 _) 0 _
  have k4 : Keeps (fun x => x = B) w3 w4 := by rw [← hw4]; exact (kset _ B 1 _).trans (kset _ B 0 _)
  have bb := b4
  obtain ⟨⟨c0, c1, c2, c3, c4, c5⟩, f0, f1, f2, f3, f4, f5⟩ := six_cells bb
  obtain ⟨wf, hwf⟩ : ∃ wf, (((((w4.setCell ⟨B, 0, none⟩ (.int .i64 rE)).setCell ⟨B, 1, none⟩ (.int .u64 rh)).setCell ⟨B, 2, none⟩ (.int .i64 0)).setCell ⟨B, 3, none⟩ (.int .i64 0)).setCell ⟨B, 4, none⟩ (.string (bs []))).setCell ⟨B, 5, none⟩ (.int .i64 0) = wf := ⟨_, rfl⟩
  have bf := set6 bb (.int .i64 rE) (.int .u64 rh) (.int .i64 0) (.int .i64 0) (.string (bs [])) (.int .i64 0)
  rw [hwf] at bf
  have kf : Keeps (fun x => x = B) w4 wf := by rw [← hwf]; exact (((((kset _ B 0 _).trans (kset _ B 1 _)).trans (kset _ B 2 _)).trans (kset _ B 3 _)).trans (kset _ B 4 _)).trans (kset _ B 5 _)
  have HF := Hid.of ((P3.set (k4.trans kf)).pr)
  obtain ⟨⟨e0, e1, e2, e3, e4, e5⟩, -⟩ := six_cells bf
  clear q r3 b3 b4 k4 bb bf kf P3
  go_wp2
  refine bodyPost_ret (v := .agg #[.int .i64 rE, .int .u64 rh, .int .i64 0, .int .i64 0, .string (bs []), .int .i64 0]) ?_ ?_ ?_
  · simp [results, Tryd.results19, go_sem, e0, e1, e2, e3, e4, e5]
  · rfl
  · exact ⟨rfl, HF.out⟩

set_option maxRecDepth 100000 in
set_option maxHeartbeats 2000000 in
theorem do_6 (w : World) (p : Plc) (g : Int → Rw) (P : PP) (t n m : Int) (h : Nat) (d : Bs) (H : PAt w p g P) (ok : Ok P) (hT : Sh.Tab w) (hh : h < 18446744073709551616) (hd : d.length ≤ 8192) (hn : -9223372036854775808 ≤ n ∧ n ≤ 9223372036854775807) (hm : -9223372036854775808 ≤ m ∧ m ≤ 9223372036854775807) :
    Calls Tryd.prog 19 #[.pointer (some ⟨p.b, 0, none⟩), .agg #[.int .i64 6, .int .i64 t, .int .i64 n, .int .i64 m, .int .u64 h, .string (bs d)]] w (DoR w p g P (pdo P 6 n m h d).1 (pdo P 6 n m h d).2) := by
  have e : pdo P 6 n m h d = (⟨(Ca.Fnd P.C h 4).2, 0, 0, 0, bs [], 0⟩, if (Ca.Fnd P.C h 4).2 = 0 then drop P (Ca.Fnd P.C h 4).1 else P) := by unfold pdo; rw [if_neg (by decide), if_neg (by decide), if_pos rfl]
  rw [e]
  obtain ⟨A, hA⟩ : ∃ A, w.heap.size = A := ⟨_, rfl⟩
  obtain ⟨w1, hw1⟩ : ∃ w1, w.alloc (.cells #[.int .i64 6, .int .i64 t, .int .i64 n, .int .i64 m, .int .u64 h, .string (bs d)] 34) = w1 := ⟨_, rfl⟩
  obtain ⟨B, hB⟩ : ∃ B, w1.heap.size = B := ⟨_, rfl⟩
  obtain ⟨w2, hw2⟩ : ∃ w2, w1.alloc (.cells #[.int .i64 0, .int .u64 0, .int .i64 0, .int .i64 0, .string ⟨#[]⟩, .int .i64 0] 36) = w2 := ⟨_, rfl⟩
  have k1 : Keeps (fun _ => False) w w1 := by rw [← hw1]; exact (Keeps.refl _ _).alloc _
  have k2' : Keeps (fun _ => False) w1 w2 := by rw [← hw2]; exact (Keeps.refl _ _).alloc _
  have k2 := k1.trans k2'
  have a1 : w1.heap[A]? = some (.cells #[.int .i64 6, .int .i64 t, .int .i64 n, .int .i64 m, .int .u64 h, .string (bs d)] 34 (0, 0)) := by rw [← hw1, ← hA]; exact alloc_new _ _
  have a2 := k2'.at a1 (fun x => x)
  have b2 : w2.heap[B]? = some (.cells (acells ⟨0, 0, 0, 0, bs [], 0⟩) 36 (0, 0)) := by rw [← hw2, ← hB]; exact alloc_new _ _
  have hBw : w.heap.size ≤ B := by have := k1.size; omega
  have hAB : A < B := by have := lt_of a1; omega
  have H2 := H.old k2
  have T2 := hT.old k2
  have nfB : ¬ Fp p g P.E B := fun hx => by have := H.lt hx; omega
  have nfA : ¬ Fp p g P.E A := fun hx => by have := H.lt hx; omega
  obtain ⟨x0, x1, x2, x3, x4, x5⟩ := (six_cells a2).1
  have P2 := PB.start H k2 hBw (lt_of b2)
  have hAf := Hid.of (And.intro a2 (And.intro nfA hAB))
  have HB0 := Hid.of (And.intro b2 P2)
  have HH2 := Hid.of (And.intro H2 T2)
  clear k1 k2' a1 a2 b2 hBw nfB nfA H hT k2 hAB P2
  have q := Ca.Find_any w2.drew p.c P.C h 4 HH2.out.1.drew.caps hh
  have y0 := cell_of (v := .pointer (some ⟨p.c.c, 0, none⟩)) HH2.out.1.cells 0 rfl
  have hfo := fun h0 => ok.fnd (h := h) (r := 4) h0
  generalize (Ca.Fnd P.C h 4).1 = k at q hfo ⊢
  generalize (Ca.Fnd P.C h 4).2 = E at q hfo ⊢
  have HFO := Hid.of hfo
  have OK := Hid.of ok
  by_cases hE : E = 0
  · subst hE
    rw [if_pos rfl]
    have hdr := fun wx g (Hx : PAt wx p g P) => drop_any wx p g P k Hx
    generalize drop P k = P' at hdr ⊢
    have HD := Hid.of hdr
    clear e ok hfo HFO OK hdr
    go_enter Tryd.func19, Tryd.ntmps19
    go_wp2
    go_region_held3 (fun wx => wx.cell? ⟨p.b, 0, none⟩ = some (.pointer (some ⟨p.c.c, 0, none⟩)) ∧ wx.cell? ⟨A, 4, none⟩ = some (.int .u64 h))
      (first | exact ⟨y0, x4⟩ | exact ⟨y0', x4'⟩)
      (first
        | (go_at_call 24; refine q.mono ?_; clear q; rintro e w3 ⟨rfl, k3⟩; have y0' := keep_cell1 k3.of_drew y0; have x4' := keep_cell1 k3.of_drew x4; have HK := Hid.of k3.of_drew; clear k3))
    clear y0' x4' y0
    have P3 := HB0.out.2.old HK.out
    have b3 := HK.out.at HB0.out.1 (fun x => x)
    obtain ⟨⟨d0, -, -, -, -, -⟩, g0, -, -, -, -, -⟩ := six_cells b3
    obtain ⟨w4, hw4⟩ : ∃ x, w3.setCell ⟨B, 0, none⟩ (.int .i64 0) = x := ⟨_, rfl⟩
    have b4 : w4.heap[B]? = some (.cells (acells ⟨0, 0, 0, 0, bs [], 0⟩) 36 (0, 0)) := by rw [← hw4]; exact set_of b3 0 _
    have k4 : Keeps (fun x => x = B) w3 w4 := by rw [← hw4]; exact kset _ B 0 _
    have P4 := P3.set k4
    have qd := HD.out w4 g P4.1
    have HP4 := Hid.of (And.intro b4 P4)
    clear P3 b3 b4 k4 P4 HD HH2 HB0 HK
    go_wp2_with fail
    refine qd.mono ?_
    rintro e w5 ⟨rfl, g5, r5⟩
    have P5 := HP4.out.2.step r5
    have b5 := r5.2.1.at HP4.out.1 HP4.out.2.nf
    have bb := b5
    obtain ⟨⟨c0, c1, c2, c3, c4, c5⟩, f0, f1, f2, f3, f4, f5⟩ := six_cells bb
    obtain ⟨wf, hwf⟩ : ∃ wf, (((((w5.setCell ⟨B, 0, none⟩ (.int .i64 0)).setCell ⟨B, 1, none⟩ (.int .u64 0)).setCell ⟨B, 2, none⟩ (.int .i64 0)).setCell ⟨B, 3, none⟩ (.int .i64 0)).setCell ⟨B, 4, none⟩ (.string (bs []))).setCell ⟨B, 5, none⟩ (.int .i64 0) = wf := ⟨_, rfl⟩
    have bf := set6 bb (.int .i64 0) (.int .u64 0) (.int .i64 0) (.int .i64 0) (.string (bs [])) (.int .i64 0)
    rw [hwf] at bf
    have kf : Keeps (fun x => x = B) w5 wf := by rw [← hwf]; exact (((((kset _ B 0 _).trans (kset _ B 1 _)).trans (kset _ B 2 _)).trans (kset _ B 3 _)).trans (kset _ B 4 _)).trans (kset _ B 5 _)
    have HF := Hid.of ((P5.set kf).pr)
    obtain ⟨⟨e0, e1, e2, e3, e4, e5⟩, -⟩ := six_cells bf
    clear qd r5 b5 P5 bb bf kf HP4
    go_wp2
    refine bodyPost_ret (v := .agg #[.int .i64 0, .int .u64 0, .int .i64 0, .int .i64 0, .string (bs []), .int .i64 0]) ?_ ?_ ?_
    · simp [results, Tryd.results19, go_sem, e0, e1, e2, e3, e4, e5]
    · rfl
    · exact ⟨rfl, HF.out⟩
  · rw [if_neg hE]
    have t0 : (E == 0) = false := by simpa using hE
    clear e ok hfo HFO OK hE
    go_enter Tryd.func19, Tryd.ntmps19
    go_wp2
    go_region_held3 (fun wx => wx.cell? ⟨p.b, 0, none⟩ = some (.pointer (some ⟨p.c.c, 0, none⟩)) ∧ wx.cell? ⟨A, 4, none⟩ = some (.int .u64 h))
      (first | exact ⟨y0, x4⟩ | exact ⟨y0', x4'⟩)
      (first
        | (go_at_call 24; refine q.mono ?_; clear q; rintro e w3 ⟨rfl, k3⟩; have y0' := keep_cell1 k3.of_drew y0; have x4' := keep_cell1 k3.of_drew x4; have HK := Hid.of k3.of_drew; clear k3))
    clear y0' x4' y0
    have P3 := HB0.out.2.old HK.out
    have b3 := HK.out.at HB0.out.1 (fun x => x)
    obtain ⟨⟨d0, -, -, -, -, -⟩, g0, -, -, -, -, -⟩ := six_cells b3
    obtain ⟨w4, hw4⟩ : ∃ x, w3.setCell ⟨B, 0, none⟩ (.int .i64 E) = x := ⟨_, rfl⟩
    have b4 : w4.heap[B]? = some (.cells (acells ⟨E, 0, 0, 0, bs [], 0⟩) 36 (0, 0)) := by rw [← hw4]; exact set_of b3 0 _
    have k4 : Keeps (fun x => x = B) w3 w4 := by rw [← hw4]; exact kset _ B 0 _
    have P4 := P3.set k4
    have bb := b4
    obtain ⟨⟨c0, c1, c2, c3, c4, c5⟩, f0, f1, f2, f3, f4, f5⟩ := six_cells bb
    obtain ⟨wf, hwf⟩ : ∃ wf, (((((w4.setCell ⟨B, 0, none⟩ (.int .i64 E)).setCell ⟨B, 1, none⟩ (.int .u64 0)).setCell ⟨B, 2, none⟩ (.int .i64 0)).setCell ⟨B, 3, none⟩ (.int .i64 0)).setCell ⟨B, 4, none⟩ (.string (bs []))).setCell ⟨B, 5, none⟩ (.int .i64 0) = wf := ⟨_, rfl⟩
    have bf := set6 bb (.int .i64 E) (.int .u64 0) (.int .i64 0) (.int .i64 0) (.string (bs [])) (.int .i64 0)
    rw [hwf] at bf
    have kf : Keeps (fun x => x = B) w4 wf := by rw [← hwf]; exact (((((kset _ B 0 _).trans (kset _ B 1 _)).trans (kset _ B 2 _)).trans (kset _ B 3 _)).trans (kset _ B 4 _)).trans (kset _ B 5 _)
    have HF := Hid.of ((P4.set kf).pr)
    obtain ⟨⟨e0, e1, e2, e3, e4, e5⟩, -⟩ := six_cells bf
    clear P3 b3 b4 k4 P4 HH2 HB0 HK bb bf kf
    go_wp2
    refine bodyPost_ret (v := .agg #[.int .i64 E, .int .u64 0, .int .i64 0, .int .i64 0, .string (bs []), .int .i64 0]) ?_ ?_ ?_
    · simp [results, Tryd.results19, go_sem, e0, e1, e2, e3, e4, e5]
    · rfl
    · exact ⟨rfl, HF.out⟩

set_option maxRecDepth 100000 in
set_option maxHeartbeats 2000000 in
theorem do_8 (w : World) (p : Plc) (g : Int → Rw) (P : PP) (t n m : Int) (h : Nat) (d : Bs) (H : PAt w p g P) (ok : Ok P) (hT : Sh.Tab w) (hh : h < 18446744073709551616) (hd : d.length ≤ 8192) (hn : -9223372036854775808 ≤ n ∧ n ≤ 9223372036854775807) (hm : -9223372036854775808 ≤ m ∧ m ≤ 9223372036854775807) :
    Calls Tryd.prog 19 #[.pointer (some ⟨p.b, 0, none⟩), .agg #[.int .i64 8, .int .i64 t, .int .i64 n, .int .i64 m, .int .u64 h, .string (bs d)]] w (DoR w p g P (pdo P 8 n m h d).1 (pdo P 8 n m h d).2) := by
  have e : pdo P 8 n m h d = (⟨(Ca.Fnd P.C h 0).2, 0, 0, if (Ca.Fnd P.C h 0).2 = 0 then (obj P (Ca.Fnd P.C h 0).1).cost else 0, bs [], 0⟩, P) := by unfold pdo; rw [if_neg (by decide), if_neg (by decide), if_neg (by decide), if_neg (by decide), if_pos rfl]
  rw [e]
  obtain ⟨A, hA⟩ : ∃ A, w.heap.size = A := ⟨_, rfl⟩
  obtain ⟨w1, hw1⟩ : ∃ w1, w.alloc (.cells #[.int .i64 8, .int .i64 t, .int .i64 n, .int .i64 m, .int .u64 h, .string (bs d)] 34) = w1 := ⟨_, rfl⟩
  obtain ⟨B, hB⟩ : ∃ B, w1.heap.size = B := ⟨_, rfl⟩
  obtain ⟨w2, hw2⟩ : ∃ w2, w1.alloc (.cells #[.int .i64 0, .int .u64 0, .int .i64 0, .int .i64 0, .string ⟨#[]⟩, .int .i64 0] 36) = w2 := ⟨_, rfl⟩
  have k1 : Keeps (fun _ => False) w w1 := by rw [← hw1]; exact (Keeps.refl _ _).alloc _
  have k2' : Keeps (fun _ => False) w1 w2 := by rw [← hw2]; exact (Keeps.refl _ _).alloc _
  have k2 := k1.trans k2'
  have a1 : w1.heap[A]? = some (.cells #[.int .i64 8, .int .i64 t, .int .i64 n, .int .i64 m, .int .u64 h, .string (bs d)] 34 (0, 0)) := by rw [← hw1, ← hA]; exact alloc_new _ _
  have a2 := k2'.at a1 (fun x => x)
  have b2 : w2.heap[B]? = some (.cells (acells ⟨0, 0, 0, 0, bs [], 0⟩) 36 (0, 0)) := by rw [← hw2, ← hB]; exact alloc_new _ _
  have hBw : w.heap.size ≤ B := by have := k1.size; omega
  have hAB : A < B := by have := lt_of a1; omega
  have H2 := H.old k2
  have T2 := hT.old k2
  have nfB : ¬ Fp p g P.E B := fun hx => by have := H.lt hx; omega
  have nfA : ¬ Fp p g P.E A := fun hx => by have := H.lt hx; omega
  obtain ⟨x0, x1, x2, x3, x4, x5⟩ := (six_cells a2).1
  have P2 := PB.start H k2 hBw (lt_of b2)
  have hAf := Hid.of (And.intro a2 (And.intro nfA hAB))
  have HB0 := Hid.of (And.intro b2 P2)
  have HH2 := Hid.of (And.intro H2 T2)
  clear k1 k2' a1 a2 b2 hBw nfB nfA H hT k2 hAB P2
  have q := Ca.Find_any w2.drew p.c P.C h 0 HH2.out.1.drew.caps hh
  have y0 := cell_of (v := .pointer (some ⟨p.c.c, 0, none⟩)) HH2.out.1.cells 0 rfl
  have hfo := fun h0 => ok.fnd (h := h) (r := 0) h0
  generalize (Ca.Fnd P.C h 0).1 = k at q hfo ⊢
  generalize (Ca.Fnd P.C h 0).2 = E at q hfo ⊢
  have HFO := Hid.of hfo
  have OK := Hid.of ok
  by_cases hE : E = 0
  · subst hE
    rw [if_pos rfl]
    obtain ⟨ob, hob⟩ := hfo rfl
    have hobj : obj P k = ob := by unfold obj; rw [hob]; rfl
    rw [hobj]
    obtain ⟨obb, oc⟩ := ob
    have HOB := Hid.of hob
    dsimp only
    clear e ok hfo HFO OK hob hobj
    go_enter Tryd.func19, Tryd.ntmps19
    go_wp2
    go_region_held3 (fun wx => wx.cell? ⟨p.b, 0, none⟩ = some (.pointer (some ⟨p.c.c, 0, none⟩)) ∧ wx.cell? ⟨A, 4, none⟩ = some (.int .u64 h))
      (first | exact ⟨y0, x4⟩ | exact ⟨y0', x4'⟩)
      (first
        | (go_at_call 24; refine q.mono ?_; clear q; rintro e w3 ⟨rfl, k3⟩; have y0' := keep_cell1 k3.of_drew y0; have x4' := keep_cell1 k3.of_drew x4; have HK := Hid.of k3.of_drew; clear k3))
    clear y0' x4' y0
    have P3 := HB0.out.2.old HK.out
    have b3 := HK.out.at HB0.out.1 (fun x => x)
    obtain ⟨⟨d0, -, -, -, -, -⟩, g0, -, -, -, -, -⟩ := six_cells b3
    obtain ⟨w4, hw4⟩ : ∃ x, w3.setCell ⟨B, 0, none⟩ (.int .i64 0) = x := ⟨_, rfl⟩
    have b4 : w4.heap[B]? = some (.cells (acells ⟨0, 0, 0, 0, bs [], 0⟩) 36 (0, 0)) := by rw [← hw4]; exact set_of b3 0 _
    have k4 : Keeps (fun x => x = B) w3 w4 := by rw [← hw4]; exact kset _ B 0 _
    have P4 := P3.set k4
    have lk := P4.1.look HOB.out
    have c4' := cell_of (v := .map (some p.ob)) P4.1.cells 4 rfl
    have hfl := fld_cost
    obtain ⟨⟨-, -, -, dn, -, -⟩, -, -, -, gn, -, -⟩ := six_cells b4
    obtain ⟨w5, hw5⟩ : ∃ x, w4.setCell ⟨B, 3, none⟩ (.int .i64 oc) = x := ⟨_, rfl⟩
    have b5 : w5.heap[B]? = some (.cells (acells ⟨0, 0, 0, oc, bs [], 0⟩) 36 (0, 0)) := by rw [← hw5]; exact set_of b4 3 _
    have k5 : Keeps (fun x => x = B) w4 w5 := by rw [← hw5]; exact kset _ B 3 _
    have P5 := P4.set k5
    have bb := b5
    obtain ⟨⟨c0, c1, c2, c3, c4, c5⟩, f0, f1, f2, f3, f4, f5⟩ := six_cells bb
    obtain ⟨wf, hwf⟩ : ∃ wf, (((((w5.setCell ⟨B, 0, none⟩ (.int .i64 0)).setCell ⟨B, 1, none⟩ (.int .u64 0)).setCell ⟨B, 2, none⟩ (.int .i64 0)).setCell ⟨B, 3, none⟩ (.int .i64 oc)).setCell ⟨B, 4, none⟩ (.string (bs []))).setCell ⟨B, 5, none⟩ (.int .i64 0) = wf := ⟨_, rfl⟩
    have bf := set6 bb (.int .i64 0) (.int .u64 0) (.int .i64 0) (.int .i64 oc) (.string (bs [])) (.int .i64 0)
    rw [hwf] at bf
    have kf : Keeps (fun x => x = B) w5 wf := by rw [← hwf]; exact (((((kset _ B 0 _).trans (kset _ B 1 _)).trans (kset _ B 2 _)).trans (kset _ B 3 _)).trans (kset _ B 4 _)).trans (kset _ B 5 _)
    have HF := Hid.of ((P5.set kf).pr)
    obtain ⟨⟨e0, e1, e2, e3, e4, e5⟩, -⟩ := six_cells bf
    clear P3 b3 b4 k4 P4 HH2 HB0 HK b5 k5 P5 bb bf kf HOB
    go_wp2
    refine bodyPost_ret (v := .agg #[.int .i64 0, .int .u64 0, .int .i64 0, .int .i64 oc, .string (bs []), .int .i64 0]) ?_ ?_ ?_
    · simp [results, Tryd.results19, go_sem, e0, e1, e2, e3, e4, e5]
    · rfl
    · exact ⟨rfl, HF.out⟩
  · rw [if_neg hE]
    have t0 : (E == 0) = false := by simpa using hE
    clear e ok hfo HFO OK hE
    go_enter Tryd.func19, Tryd.ntmps19
    go_wp2
    go_region_held3 (fun wx => wx.cell? ⟨p.b, 0, none⟩ = some (.pointer (some ⟨p.c.c, 0, none⟩)) ∧ wx.cell? ⟨A, 4, none⟩ = some (.int .u64 h))
      (first | exact ⟨y0, x4⟩ | exact ⟨y0', x4'⟩)
      (first
        | (go_at_call 24; refine q.mono ?_; clear q; rintro e w3 ⟨rfl, k3⟩; have y0' := keep_cell1 k3.of_drew y0; have x4' := keep_cell1 k3.of_drew x4; have HK := Hid.of k3.of_drew; clear k3))
    clear y0' x4' y0
    have P3 := HB0.out.2.old HK.out
    have b3 := HK.out.at HB0.out.1 (fun x => x)
    obtain ⟨⟨d0, -, -, -, -, -⟩, g0, -, -, -, -, -⟩ := six_cells b3
    obtain ⟨w4, hw4⟩ : ∃ x, w3.setCell ⟨B, 0, none⟩ (.int .i64 E) = x := ⟨_, rfl⟩
    have b4 : w4.heap[B]? = some (.cells (acells ⟨E, 0, 0, 0, bs [], 0⟩) 36 (0, 0)) := by rw [← hw4]; exact set_of b3 0 _
    have k4 : Keeps (fun x => x = B) w3 w4 := by rw [← hw4]; exact kset _ B 0 _
    have P4 := P3.set k4
    have bb := b4
    obtain ⟨⟨c0, c1, c2, c3, c4, c5⟩, f0, f1, f2, f3, f4, f5⟩ := six_cells bb
    obtain ⟨wf, hwf⟩ : ∃ wf, (((((w4.setCell ⟨B, 0, none⟩ (.int .i64 E)).setCell ⟨B, 1, none⟩ (.int .u64 0)).setCell ⟨B, 2, none⟩ (.int .i64 0)).setCell ⟨B, 3, none⟩ (.int .i64 0)).setCell ⟨B, 4, none⟩ (.string (bs []))).setCell ⟨B, 5, none⟩ (.int .i64 0) = wf := ⟨_, rfl⟩
    have bf := set6 bb (.int .i64 E) (.int .u64 0) (.int .i64 0) (.int .i64 0) (.string (bs [])) (.int .i64 0)
    rw [hwf] at bf
    have kf : Keeps (fun x => x = B) w4 wf := by rw [← hwf]; exact (((((kset _ B 0 _).trans (kset _ B 1 _)).trans (kset _ B 2 _)).trans (kset _ B 3 _)).trans (kset _ B 4 _)).trans (kset _ B 5 _)
    have HF := Hid.of ((P4.set kf).pr)
    obtain ⟨⟨e0, e1, e2, e3, e4, e5⟩, -⟩ := six_cells bf
    clear P3 b3 b4 k4 P4 HH2 HB0 HK bb bf kf
    go_wp2
    refine bodyPost_ret (v := .agg #[.int .i64 E, .int .u64 0, .int .i64 0, .int .i64 0, .string (bs []), .int .i64 0]) ?_ ?_ ?_
    · simp [results, Tryd.results19, go_sem, e0, e1, e2, e3, e4, e5]
    · rfl
    · exact ⟨rfl, HF.out⟩

end Mo
end Go.Proofs.YtagmkkddjdlncaaDoor

/-! The model package's walk: a part's do, at each kind of operation, the rest (printed by gen_modo.py). -/
namespace Go.Proofs.YtagmkkddjdlncaaDoor
open Go.RowKit Go.ChangeMaps
namespace Mo

set_option maxRecDepth 100000 in
set_option maxHeartbeats 2000000 in
theorem do_9 (w : World) (p : Plc) (g : Int → Rw) (P : PP) (t n m : Int) (h : Nat) (d : Bs) (H : PAt w p g P) (ok : Ok P) (hT : Sh.Tab w) (hh : h < 18446744073709551616) (hd : d.length ≤ 8192) (hn : -9223372036854775808 ≤ n ∧ n ≤ 9223372036854775807) (hm : -9223372036854775808 ≤ m ∧ m ≤ 9223372036854775807) :
    Calls Tryd.prog 19 #[.pointer (some ⟨p.b, 0, none⟩), .agg #[.int .i64 9, .int .i64 t, .int .i64 n, .int .i64 m, .int .u64 h, .string (bs d)]] w (DoR w p g P (pdo P 9 n m h d).1 (pdo P 9 n m h d).2) := by
  have e : pdo P 9 n m h d = (⟨spanE P h 1 n m, 0, 0, 0, if spanE P h 1 n m = 0 then bs (spanB P h 1 n m) else bs [], 0⟩, P) := by unfold pdo; rw [if_neg (by decide), if_neg (by decide), if_neg (by decide), if_neg (by decide), if_neg (by decide), if_pos rfl]
  rw [e]
  obtain ⟨A, hA⟩ : ∃ A, w.heap.size = A := ⟨_, rfl⟩
  obtain ⟨w1, hw1⟩ : ∃ w1, w.alloc (.cells #[.int .i64 9, .int .i64 t, .int .i64 n, .int .i64 m, .int .u64 h, .string (bs d)] 34) = w1 := ⟨_, rfl⟩
  obtain ⟨B, hB⟩ : ∃ B, w1.heap.size = B := ⟨_, rfl⟩
  obtain ⟨w2, hw2⟩ : ∃ w2, w1.alloc (.cells #[.int .i64 0, .int .u64 0, .int .i64 0, .int .i64 0, .string ⟨#[]⟩, .int .i64 0] 36) = w2 := ⟨_, rfl⟩
  have k1 : Keeps (fun _ => False) w w1 := by rw [← hw1]; exact (Keeps.refl _ _).alloc _
  have k2' : Keeps (fun _ => False) w1 w2 := by rw [← hw2]; exact (Keeps.refl _ _).alloc _
  have k2 := k1.trans k2'
  have a1 : w1.heap[A]? = some (.cells #[.int .i64 9, .int .i64 t, .int .i64 n, .int .i64 m, .int .u64 h, .string (bs d)] 34 (0, 0)) := by rw [← hw1, ← hA]; exact alloc_new _ _
  have a2 := k2'.at a1 (fun x => x)
  have b2 : w2.heap[B]? = some (.cells (acells ⟨0, 0, 0, 0, bs [], 0⟩) 36 (0, 0)) := by rw [← hw2, ← hB]; exact alloc_new _ _
  have hBw : w.heap.size ≤ B := by have := k1.size; omega
  have hAB : A < B := by have := lt_of a1; omega
  have H2 := H.old k2
  have T2 := hT.old k2
  have nfB : ¬ Fp p g P.E B := fun hx => by have := H.lt hx; omega
  have nfA : ¬ Fp p g P.E A := fun hx => by have := H.lt hx; omega
  obtain ⟨x0, x1, x2, x3, x4, x5⟩ := (six_cells a2).1
  have P2 := PB.start H k2 hBw (lt_of b2)
  have hAf := Hid.of (And.intro a2 (And.intro nfA hAB))
  have HB0 := Hid.of (And.intro b2 P2)
  have HH2 := Hid.of (And.intro H2 T2)
  clear k1 k2' a1 a2 b2 hBw nfB nfA H hT k2 hAB P2
  have q := span_any w2 p g P h 1 n m HH2.out.1 ok hh hm.2 hn.2
  unfold SpanR at q
  have hso := fun he => span_ok (P := P) (h := h) (r := 1) (f := n) (n := m) he
  have hfo := fun h0 => ok.fnd (h := h) (r := 1) h0
  by_cases hE : spanE P h 1 n m = 0
  · rw [if_pos hE]
    obtain ⟨z0, z1, z2, z3, z4⟩ := hso hE
    obtain ⟨ob, hob⟩ := hfo z0
    have hobj : obj P (Ca.Fnd P.C h 1).1 = ob := by unfold obj; rw [hob]; rfl
    rw [hobj] at z3 z4 q
    have hsb : spanB P h 1 n m = (ob.bs.drop n.toNat).take m.toNat := by unfold spanB; rw [hobj]
    have rd := fun (wx : World) (k : Keeps (fun _ => False) w2 wx) => span_rd ((HH2.out.1.old k).rows _ (eget_memE hob)) z1 z2 z3 z4
    have hl : (spanB P h 1 n m).length = m.toNat := by rw [hsb, List.length_take, List.length_drop]; omega
    rw [← hsb] at rd
    rw [hE] at q ⊢
    simp only at rd
    generalize spanB P h 1 n m = SB at *
    generalize (Ca.Fnd P.C h 1).1 = k at *
    generalize so ob (g k).t n = s0 at *
    generalize m.toNat = mm at *
    generalize ob.bs.length + (g k).t.length - n.toNat = cp at *
    have HR := Hid.of rd
    clear e ok hso hfo hE z0 z1 z2 z3 z4 hob hobj hsb rd
    go_enter Tryd.func19, Tryd.ntmps19
    go_wp2_with fail
    refine q.mono ?_
    rintro e w3 ⟨v, rfl, k3, -, hv⟩
    obtain rfl := hv rfl
    have cv := string_of_bytes w3 (some ⟨(g k).b, s0, none⟩) mm cp SB hl (HR.out w3 k3) (by simp)
    have P3 := HB0.out.2.old k3
    have b3 := k3.at HB0.out.1 (fun x => x)
    obtain ⟨⟨d0, -, -, -, d4, -⟩, g0, -, -, -, g4, -⟩ := six_cells b3
    obtain ⟨w4, hw4⟩ : ∃ x, (w3.setCell ⟨B, 4, none⟩ (.string (bs SB))).setCell ⟨B, 0, none⟩ (.int .i64 0) = x := ⟨_, rfl⟩
    have b4 : w4.heap[B]? = some (.cells (acells ⟨0, 0, 0, 0, bs SB, 0⟩) 36 (0, 0)) := by rw [← hw4]; exact set_of (set_of b3 4 _) 0 _
    have k4 : Keeps (fun x => x = B) w3 w4 := by rw [← hw4]; exact (kset _ B 4 _).trans (kset _ B 0 _)
    have P4 := P3.set k4
    have bb := b4
    obtain ⟨⟨c0, c1, c2, c3, c4, c5⟩, f0, f1, f2, f3, f4, f5⟩ := six_cells bb
    obtain ⟨wf, hwf⟩ : ∃ wf, (((((w4.setCell ⟨B, 0, none⟩ (.int .i64 0)).setCell ⟨B, 1, none⟩ (.int .u64 0)).setCell ⟨B, 2, none⟩ (.int .i64 0)).setCell ⟨B, 3, none⟩ (.int .i64 0)).setCell ⟨B, 4, none⟩ (.string (bs SB))).setCell ⟨B, 5, none⟩ (.int .i64 0) = wf := ⟨_, rfl⟩
    have bf := set6 bb (.int .i64 0) (.int .u64 0) (.int .i64 0) (.int .i64 0) (.string (bs SB)) (.int .i64 0)
    rw [hwf] at bf
    have kf : Keeps (fun x => x = B) w4 wf := by rw [← hwf]; exact (((((kset _ B 0 _).trans (kset _ B 1 _)).trans (kset _ B 2 _)).trans (kset _ B 3 _)).trans (kset _ B 4 _)).trans (kset _ B 5 _)
    have HF := Hid.of ((P4.set kf).pr)
    obtain ⟨⟨e0, e1, e2, e3, e4, e5⟩, -⟩ := six_cells bf
    clear hv P3 b3 b4 k4 P4 HH2 HB0 HR bb bf kf k3 q hl
    go_wp2
    refine bodyPost_ret (v := .agg #[.int .i64 0, .int .u64 0, .int .i64 0, .int .i64 0, .string (bs SB), .int .i64 0]) ?_ ?_ ?_
    · simp [results, Tryd.results19, go_sem, e0, e1, e2, e3, e4, e5]
    · rfl
    · exact ⟨rfl, HF.out⟩
  · rw [if_neg hE]
    generalize spanE P h 1 n m = E at *
    have cv := fun w3 => string_of_bytes w3 none 0 0 [] rfl (Rd.nil _ _) (by simp)
    have HE := Hid.of hE
    obtain ⟨V, hV⟩ : ∃ V, Value.slice (some ⟨(g (Ca.Fnd P.C h 1).1).b, so (obj P (Ca.Fnd P.C h 1).1) (g (Ca.Fnd P.C h 1).1).t n, none⟩) m.toNat ((obj P (Ca.Fnd P.C h 1).1).bs.length + (g (Ca.Fnd P.C h 1).1).t.length - n.toNat) = V := ⟨_, rfl⟩
    rw [hV] at q
    clear e ok hso hfo hE hV
    go_enter Tryd.func19, Tryd.ntmps19
    go_wp2_with fail
    refine q.mono ?_
    rintro e w3 ⟨v, rfl, k3, hv, -⟩
    obtain rfl := hv HE.out
    have P3 := HB0.out.2.old k3
    have b3 := k3.at HB0.out.1 (fun x => x)
    obtain ⟨⟨d0, -, -, -, d4, -⟩, g0, -, -, -, g4, -⟩ := six_cells b3
    obtain ⟨w4, hw4⟩ : ∃ x, (w3.setCell ⟨B, 4, none⟩ (.string (bs []))).setCell ⟨B, 0, none⟩ (.int .i64 E) = x := ⟨_, rfl⟩
    have b4 : w4.heap[B]? = some (.cells (acells ⟨E, 0, 0, 0, bs [], 0⟩) 36 (0, 0)) := by rw [← hw4]; exact set_of (set_of b3 4 _) 0 _
    have k4 : Keeps (fun x => x = B) w3 w4 := by rw [← hw4]; exact (kset _ B 4 _).trans (kset _ B 0 _)
    have P4 := P3.set k4
    have bb := b4
    obtain ⟨⟨c0, c1, c2, c3, c4, c5⟩, f0, f1, f2, f3, f4, f5⟩ := six_cells bb
    obtain ⟨wf, hwf⟩ : ∃ wf, (((((w4.setCell ⟨B, 0, none⟩ (.int .i64 E)).setCell ⟨B, 1, none⟩ (.int .u64 0)).setCell ⟨B, 2, none⟩ (.int .i64 0)).setCell ⟨B, 3, none⟩ (.int .i64 0)).setCell ⟨B, 4, none⟩ (.string (bs []))).setCell ⟨B, 5, none⟩ (.int .i64 0) = wf := ⟨_, rfl⟩
    have bf := set6 bb (.int .i64 E) (.int .u64 0) (.int .i64 0) (.int .i64 0) (.string (bs [])) (.int .i64 0)
    rw [hwf] at bf
    have kf : Keeps (fun x => x = B) w4 wf := by rw [← hwf]; exact (((((kset _ B 0 _).trans (kset _ B 1 _)).trans (kset _ B 2 _)).trans (kset _ B 3 _)).trans (kset _ B 4 _)).trans (kset _ B 5 _)
    have HF := Hid.of ((P4.set kf).pr)
    obtain ⟨⟨e0, e1, e2, e3, e4, e5⟩, -⟩ := six_cells bf
    clear hv P3 b3 b4 k4 P4 HH2 HB0 bb bf kf k3 q
    go_wp2
    refine bodyPost_ret (v := .agg #[.int .i64 E, .int .u64 0, .int .i64 0, .int .i64 0, .string (bs []), .int .i64 0]) ?_ ?_ ?_
    · simp [results, Tryd.results19, go_sem, e0, e1, e2, e3, e4, e5]
    · rfl
    · exact ⟨rfl, HF.out⟩

set_option maxRecDepth 100000 in
set_option maxHeartbeats 2000000 in
theorem do_10 (w : World) (p : Plc) (g : Int → Rw) (P : PP) (t n m : Int) (h : Nat) (d : Bs) (H : PAt w p g P) (ok : Ok P) (hT : Sh.Tab w) (hh : h < 18446744073709551616) (hd : d.length ≤ 8192) (hn : -9223372036854775808 ≤ n ∧ n ≤ 9223372036854775807) (hm : -9223372036854775808 ≤ m ∧ m ≤ 9223372036854775807) :
    Calls Tryd.prog 19 #[.pointer (some ⟨p.b, 0, none⟩), .agg #[.int .i64 10, .int .i64 t, .int .i64 n, .int .i64 m, .int .u64 h, .string (bs d)]] w (DoR w p g P (pdo P 10 n m h d).1 (pdo P 10 n m h d).2) := by
  have e : pdo P 10 n m h d = (⟨spanE P h 2 n d.length, 0, 0, 0, bs [], 0⟩, if spanE P h 2 n d.length = 0 then write P h 2 n d else P) := by unfold pdo; rw [if_neg (by decide), if_neg (by decide), if_neg (by decide), if_neg (by decide), if_neg (by decide), if_neg (by decide), if_pos rfl]
  rw [e]
  obtain ⟨A, hA⟩ : ∃ A, w.heap.size = A := ⟨_, rfl⟩
  obtain ⟨w1, hw1⟩ : ∃ w1, w.alloc (.cells #[.int .i64 10, .int .i64 t, .int .i64 n, .int .i64 m, .int .u64 h, .string (bs d)] 34) = w1 := ⟨_, rfl⟩
  obtain ⟨B, hB⟩ : ∃ B, w1.heap.size = B := ⟨_, rfl⟩
  obtain ⟨w2, hw2⟩ : ∃ w2, w1.alloc (.cells #[.int .i64 0, .int .u64 0, .int .i64 0, .int .i64 0, .string ⟨#[]⟩, .int .i64 0] 36) = w2 := ⟨_, rfl⟩
  have k1 : Keeps (fun _ => False) w w1 := by rw [← hw1]; exact (Keeps.refl _ _).alloc _
  have k2' : Keeps (fun _ => False) w1 w2 := by rw [← hw2]; exact (Keeps.refl _ _).alloc _
  have k2 := k1.trans k2'
  have a1 : w1.heap[A]? = some (.cells #[.int .i64 10, .int .i64 t, .int .i64 n, .int .i64 m, .int .u64 h, .string (bs d)] 34 (0, 0)) := by rw [← hw1, ← hA]; exact alloc_new _ _
  have a2 := k2'.at a1 (fun x => x)
  have b2 : w2.heap[B]? = some (.cells (acells ⟨0, 0, 0, 0, bs [], 0⟩) 36 (0, 0)) := by rw [← hw2, ← hB]; exact alloc_new _ _
  have hBw : w.heap.size ≤ B := by have := k1.size; omega
  have hAB : A < B := by have := lt_of a1; omega
  have H2 := H.old k2
  have T2 := hT.old k2
  have nfB : ¬ Fp p g P.E B := fun hx => by have := H.lt hx; omega
  have nfA : ¬ Fp p g P.E A := fun hx => by have := H.lt hx; omega
  obtain ⟨x0, x1, x2, x3, x4, x5⟩ := (six_cells a2).1
  have P2 := PB.start H k2 hBw (lt_of b2)
  have hAf := Hid.of (And.intro a2 (And.intro nfA hAB))
  have HB0 := Hid.of (And.intro b2 P2)
  have HH2 := Hid.of (And.intro H2 T2)
  clear k1 k2' a1 a2 b2 hBw nfB nfA H hT k2 hAB P2
  have q := span_any w2 p g P h 2 n d.length HH2.out.1 ok hh (by omega) hn.2
  unfold SpanR at q
  have hso := fun he => span_ok (P := P) (h := h) (r := 2) (f := n) (n := d.length) he
  have hfo := fun h0 => ok.fnd (h := h) (r := 2) h0
  rw [Int.toNat_natCast] at q
  by_cases hE : spanE P h 2 n d.length = 0
  · rw [if_pos hE]
    obtain ⟨z0, z1, z2, z3, z4⟩ := hso hE
    obtain ⟨ob, hob⟩ := hfo z0
    have hobj : obj P (Ca.Fnd P.C h 2).1 = ob := by unfold obj; rw [hob]; rfl
    rw [hobj] at z3 z4 q
    obtain ⟨so1, so2⟩ := so_put (tl := (g (Ca.Fnd P.C h 2).1).t) z1 z3 z4
    have hwr : write P h 2 n d = { P with E := eset P.E (Ca.Fnd P.C h 2).1 ⟨bput ob.bs n.toNat d, ob.cost⟩ } := by unfold write; rw [hobj]
    have hbl : (bput ob.bs n.toNat d).length = ob.bs.length := bput_length _ _ _ (by omega)
    rw [hwr]
    have cps := fun (wx : World) (k : Keeps (fun _ => False) w2 wx) => copy_str wx (g (Ca.Fnd P.C h 2).1).b (so ob (g (Ca.Fnd P.C h 2).1).t n) d.length (ob.bs.length + (g (Ca.Fnd P.C h 2).1).t.length - n.toNat) ob.bs d d ((HH2.out.1.old k).rows _ (eget_memE hob)) (by simp) so2
    rw [hE] at q ⊢
    try simp only at cps
    rw [so1] at cps
    generalize (Ca.Fnd P.C h 2).1 = k at *
    generalize so ob (g k).t n = s0 at *
    generalize bput ob.bs n.toNat d = R at *
    generalize ob.bs.length + (g k).t.length - n.toNat = cp at *
    have HR := Hid.of (And.intro cps (And.intro hob hbl))
    clear e ok hso hfo hE z0 z1 z2 z3 z4 hob hobj so1 so2 hwr hbl cps
    go_enter Tryd.func19, Tryd.ntmps19
    go_wp2_with fail
    refine q.mono ?_
    rintro e w3 ⟨v, rfl, k3, -, hv⟩
    obtain rfl := hv rfl
    obtain ⟨w4, cp4, row4, k4⟩ := HR.out.1 w3 k3
    have P3 := HB0.out.2.old k3
    have b3 := k3.at HB0.out.1 (fun x => x)
    obtain ⟨A4, K4, F4⟩ := P3.1.bytes HR.out.2.1 HR.out.2.2 row4 k4
    have P4 := P3.step (P2 := { P with E := eset P.E k ⟨R, ob.cost⟩ }) ⟨A4, K4, fun i hi => .inl (F4 i hi)⟩
    have b4' := K4.at b3 P3.nf
    obtain ⟨⟨x0', x1', x2', x3', x4', x5'⟩, -⟩ := six_cells (k3.at hAf.out.1 (fun x => x))
    obtain ⟨⟨d0, -, -, -, -, -⟩, g0, -, -, -, -, -⟩ := six_cells b4'
    obtain ⟨w5, hw5⟩ : ∃ x, w4.setCell ⟨B, 0, none⟩ (.int .i64 0) = x := ⟨_, rfl⟩
    have b5 : w5.heap[B]? = some (.cells (acells ⟨0, 0, 0, 0, bs [], 0⟩) 36 (0, 0)) := by rw [← hw5]; exact set_of b4' 0 _
    have k5 : Keeps (fun x => x = B) w4 w5 := by rw [← hw5]; exact kset _ B 0 _
    have P5 := P4.set k5
    have x5'' : w4.cell? ⟨A, 5, none⟩ = some (.string (bs d)) := by exact (six_cells (K4.at (k3.at hAf.out.1 (fun x => x)) hAf.out.2.1)).1.2.2.2.2.2
    have bb := b5
    obtain ⟨⟨c0, c1, c2, c3, c4, c5⟩, f0, f1, f2, f3, f4, f5⟩ := six_cells bb
    obtain ⟨wf, hwf⟩ : ∃ wf, (((((w5.setCell ⟨B, 0, none⟩ (.int .i64 0)).setCell ⟨B, 1, none⟩ (.int .u64 0)).setCell ⟨B, 2, none⟩ (.int .i64 0)).setCell ⟨B, 3, none⟩ (.int .i64 0)).setCell ⟨B, 4, none⟩ (.string (bs []))).setCell ⟨B, 5, none⟩ (.int .i64 0) = wf := ⟨_, rfl⟩
    have bf := set6 bb (.int .i64 0) (.int .u64 0) (.int .i64 0) (.int .i64 0) (.string (bs [])) (.int .i64 0)
    rw [hwf] at bf
    have kf : Keeps (fun x => x = B) w5 wf := by rw [← hwf]; exact (((((kset _ B 0 _).trans (kset _ B 1 _)).trans (kset _ B 2 _)).trans (kset _ B 3 _)).trans (kset _ B 4 _)).trans (kset _ B 5 _)
    have HF := Hid.of ((P5.set kf).pr)
    obtain ⟨⟨e0, e1, e2, e3, e4, e5⟩, -⟩ := six_cells bf
    clear hv P3 b3 b4' k4 P4 HH2 HB0 HR bb bf kf k3 q A4 K4 F4 row4 b5 k5 P5
    go_wp2
    refine bodyPost_ret (v := .agg #[.int .i64 0, .int .u64 0, .int .i64 0, .int .i64 0, .string (bs []), .int .i64 0]) ?_ ?_ ?_
    · simp [results, Tryd.results19, go_sem, e0, e1, e2, e3, e4, e5]
    · rfl
    · exact ⟨rfl, HF.out⟩
  · rw [if_neg hE]
    generalize spanE P h 2 n d.length = E at *
    have cps := fun (w : World) ty => copy_str_none w ty d
    have HE := Hid.of hE
    obtain ⟨V, hV⟩ : ∃ V, Value.slice (some ⟨(g (Ca.Fnd P.C h 2).1).b, so (obj P (Ca.Fnd P.C h 2).1) (g (Ca.Fnd P.C h 2).1).t n, none⟩) d.length ((obj P (Ca.Fnd P.C h 2).1).bs.length + (g (Ca.Fnd P.C h 2).1).t.length - n.toNat) = V := ⟨_, rfl⟩
    rw [hV] at q
    clear e ok hso hfo hE hV
    go_enter Tryd.func19, Tryd.ntmps19
    go_wp2_with fail
    refine q.mono ?_
    rintro e w3 ⟨v, rfl, k3, hv, -⟩
    obtain rfl := hv HE.out
    have P3 := HB0.out.2.old k3
    have b3 := k3.at HB0.out.1 (fun x => x)
    obtain ⟨⟨x0', x1', x2', x3', x4', x5'⟩, -⟩ := six_cells (k3.at hAf.out.1 (fun x => x))
    obtain ⟨⟨d0, -, -, -, -, -⟩, g0, -, -, -, -, -⟩ := six_cells b3
    obtain ⟨w4, hw4⟩ : ∃ x, w3.setCell ⟨B, 0, none⟩ (.int .i64 E) = x := ⟨_, rfl⟩
    have b4 : w4.heap[B]? = some (.cells (acells ⟨E, 0, 0, 0, bs [], 0⟩) 36 (0, 0)) := by rw [← hw4]; exact set_of b3 0 _
    have k4 : Keeps (fun x => x = B) w3 w4 := by rw [← hw4]; exact kset _ B 0 _
    have P4 := P3.set k4
    have bb := b4
    obtain ⟨⟨c0, c1, c2, c3, c4, c5⟩, f0, f1, f2, f3, f4, f5⟩ := six_cells bb
    obtain ⟨wf, hwf⟩ : ∃ wf, (((((w4.setCell ⟨B, 0, none⟩ (.int .i64 E)).setCell ⟨B, 1, none⟩ (.int .u64 0)).setCell ⟨B, 2, none⟩ (.int .i64 0)).setCell ⟨B, 3, none⟩ (.int .i64 0)).setCell ⟨B, 4, none⟩ (.string (bs []))).setCell ⟨B, 5, none⟩ (.int .i64 0) = wf := ⟨_, rfl⟩
    have bf := set6 bb (.int .i64 E) (.int .u64 0) (.int .i64 0) (.int .i64 0) (.string (bs [])) (.int .i64 0)
    rw [hwf] at bf
    have kf : Keeps (fun x => x = B) w4 wf := by rw [← hwf]; exact (((((kset _ B 0 _).trans (kset _ B 1 _)).trans (kset _ B 2 _)).trans (kset _ B 3 _)).trans (kset _ B 4 _)).trans (kset _ B 5 _)
    have HF := Hid.of ((P4.set kf).pr)
    obtain ⟨⟨e0, e1, e2, e3, e4, e5⟩, -⟩ := six_cells bf
    clear hv P3 b3 b4 k4 P4 HH2 HB0 bb bf kf k3 q
    go_wp2
    refine bodyPost_ret (v := .agg #[.int .i64 E, .int .u64 0, .int .i64 0, .int .i64 0, .string (bs []), .int .i64 0]) ?_ ?_ ?_
    · simp [results, Tryd.results19, go_sem, e0, e1, e2, e3, e4, e5]
    · rfl
    · exact ⟨rfl, HF.out⟩

set_option maxRecDepth 100000 in
set_option maxHeartbeats 2000000 in
theorem do_11 (w : World) (p : Plc) (g : Int → Rw) (P : PP) (t n m : Int) (h : Nat) (d : Bs) (H : PAt w p g P) (ok : Ok P) (hT : Sh.Tab w) (hh : h < 18446744073709551616) (hd : d.length ≤ 8192) (hn : -9223372036854775808 ≤ n ∧ n ≤ 9223372036854775807) (hm : -9223372036854775808 ≤ m ∧ m ≤ 9223372036854775807) :
    Calls Tryd.prog 19 #[.pointer (some ⟨p.b, 0, none⟩), .agg #[.int .i64 11, .int .i64 t, .int .i64 n, .int .i64 m, .int .u64 h, .string (bs d)]] w (DoR w p g P (pdo P 11 n m h d).1 (pdo P 11 n m h d).2) := by
  have e : pdo P 11 n m h d = (⟨(Ca.restrict P.C h n).1.2, (Ca.restrict P.C h n).1.1, 0, 0, bs [], 0⟩, { P with C := (Ca.restrict P.C h n).2 }) := by unfold pdo; rw [if_neg (by decide), if_neg (by decide), if_neg (by decide), if_neg (by decide), if_neg (by decide), if_neg (by decide), if_neg (by decide), if_pos rfl]
  rw [e]
  obtain ⟨A, hA⟩ : ∃ A, w.heap.size = A := ⟨_, rfl⟩
  obtain ⟨w1, hw1⟩ : ∃ w1, w.alloc (.cells #[.int .i64 11, .int .i64 t, .int .i64 n, .int .i64 m, .int .u64 h, .string (bs d)] 34) = w1 := ⟨_, rfl⟩
  obtain ⟨B, hB⟩ : ∃ B, w1.heap.size = B := ⟨_, rfl⟩
  obtain ⟨w2, hw2⟩ : ∃ w2, w1.alloc (.cells #[.int .i64 0, .int .u64 0, .int .i64 0, .int .i64 0, .string ⟨#[]⟩, .int .i64 0] 36) = w2 := ⟨_, rfl⟩
  have k1 : Keeps (fun _ => False) w w1 := by rw [← hw1]; exact (Keeps.refl _ _).alloc _
  have k2' : Keeps (fun _ => False) w1 w2 := by rw [← hw2]; exact (Keeps.refl _ _).alloc _
  have k2 := k1.trans k2'
  have a1 : w1.heap[A]? = some (.cells #[.int .i64 11, .int .i64 t, .int .i64 n, .int .i64 m, .int .u64 h, .string (bs d)] 34 (0, 0)) := by rw [← hw1, ← hA]; exact alloc_new _ _
  have a2 := k2'.at a1 (fun x => x)
  have b2 : w2.heap[B]? = some (.cells (acells ⟨0, 0, 0, 0, bs [], 0⟩) 36 (0, 0)) := by rw [← hw2, ← hB]; exact alloc_new _ _
  have hBw : w.heap.size ≤ B := by have := k1.size; omega
  have hAB : A < B := by have := lt_of a1; omega
  have H2 := H.old k2
  have T2 := hT.old k2
  have nfB : ¬ Fp p g P.E B := fun hx => by have := H.lt hx; omega
  have nfA : ¬ Fp p g P.E A := fun hx => by have := H.lt hx; omega
  obtain ⟨x0, x1, x2, x3, x4, x5⟩ := (six_cells a2).1
  have P2 := PB.start H k2 hBw (lt_of b2)
  have hAf := Hid.of (And.intro a2 (And.intro nfA hAB))
  have HB0 := Hid.of (And.intro b2 P2)
  have HH2 := Hid.of (And.intro H2 T2)
  clear k1 k2' a1 a2 b2 hBw nfB nfA H hT k2 hAB P2
  have q := Ca.restrict_any w2.drew p.c P.C h n HH2.out.1.drew.caps ok.ca hh (HH2.out.2.old ((Keeps.refl _ _).drew))
  have y0 := cell_of (v := .pointer (some ⟨p.c.c, 0, none⟩)) HH2.out.1.cells 0 rfl
  generalize (Ca.restrict P.C h n).2 = C' at q ⊢
  generalize (Ca.restrict P.C h n).1 = r at q ⊢
  obtain ⟨rh, rE⟩ := r
  dsimp only at q ⊢
  have OK := Hid.of ok
  clear e ok
  go_enter Tryd.func19, Tryd.ntmps19
  go_wp2
  go_region_held3 (fun wx => wx.cell? ⟨p.b, 0, none⟩ = some (.pointer (some ⟨p.c.c, 0, none⟩)) ∧ wx.cell? ⟨A, 4, none⟩ = some (.int .u64 h) ∧ wx.cell? ⟨A, 2, none⟩ = some (.int .i64 n))
    (first | exact ⟨y0, x4, x2⟩ | exact ⟨y0', x4', x2'⟩ | exact ⟨z0, z4, z2⟩ | exact ⟨v0, v4, v2⟩)
    (first
      | (go_at_call 37; refine q.mono ?_; clear q; rintro e w3 ⟨rfl, a3, k3⟩; have A3 := HB0.out.2.1.caps' a3 k3.of_drew; have P3 := HB0.out.2.step (P2 := { P with C := C' }) ⟨A3, k3.of_drew.mono (fun x _ hx => .inr (.inr (.inl hx))), fun i hi => .inl hi⟩; have b3 := k3.of_drew.at HB0.out.1 (fun hx => HB0.out.2.nf (.inr (.inr (.inl hx)))); have y0' := cell_of (v := .pointer (some ⟨p.c.c, 0, none⟩)) A3.cells 0 rfl; obtain ⟨⟨x0', x1', x2', x3', x4', x5'⟩, -⟩ := six_cells (k3.of_drew.at hAf.out.1 (fun hx => hAf.out.2.1 (.inr (.inr (.inl hx))))); have HP3 := Hid.of (And.intro b3 P3); obtain ⟨⟨d0, d1, -, -, -, -⟩, g0, g1, -, -, -, -⟩ := six_cells b3; have hb : ¬ p.b = B := (fun e => HP3.out.2.nf (.inl e.symm)); have hab : ¬ A = B := (fun e => by have := hAf.out.2.2; omega); have k31 := kset w3 B 1 (.int .u64 rh); have k32 := kset (w3.setCell ⟨B, 1, none⟩ (.int .u64 rh)) B 0 (.int .i64 rE); have z0 := keep_cell k31 hb y0'; have z4 := keep_cell k31 hab x4'; have z2 := keep_cell k31 hab x2'; have v0 := keep_cell k32 hb z0; have v4 := keep_cell k32 hab z4; have v2 := keep_cell k32 hab z2; clear b3 P3 A3 a3 k3 k31 k32))
  obtain ⟨b3, P3⟩ := HP3.out
  obtain ⟨w4, hw4⟩ : ∃ w4, (w3.setCell ⟨B, 1, none⟩ (.int .u64 rh)).setCell ⟨B, 0, none⟩ (.int .i64 rE) = w4 := ⟨_, rfl⟩
  have b4 : w4.heap[B]? = some (.cells (acells ⟨rE, rh, 0, 0, bs [], 0⟩) 36 (0, 0)) := by rw [← hw4]; exact set_of (set_of b3 1 _) 0 _
  have k4 : Keeps (fun x => x = B) w3 w4 := by rw [← hw4]; exact (kset _ B 1 _).trans (kset _ B 0 _)
  rw [hw4]
  have bb := b4
  obtain ⟨⟨c0, c1, c2, c3, c4, c5⟩, f0, f1, f2, f3, f4, f5⟩ := six_cells bb
  obtain ⟨wf, hwf⟩ : ∃ wf, (((((w4.setCell ⟨B, 0, none⟩ (.int .i64 rE)).setCell ⟨B, 1, none⟩ (.int .u64 rh)).setCell ⟨B, 2, none⟩ (.int .i64 0)).setCell ⟨B, 3, none⟩ (.int .i64 0)).setCell ⟨B, 4, none⟩ (.string (bs []))).setCell ⟨B, 5, none⟩ (.int .i64 0) = wf := ⟨_, rfl⟩
  have bf := set6 bb (.int .i64 rE) (.int .u64 rh) (.int .i64 0) (.int .i64 0) (.string (bs [])) (.int .i64 0)
  rw [hwf] at bf
  have kf : Keeps (fun x => x = B) w4 wf := by rw [← hwf]; exact (((((kset _ B 0 _).trans (kset _ B 1 _)).trans (kset _ B 2 _)).trans (kset _ B 3 _)).trans (kset _ B 4 _)).trans (kset _ B 5 _)
  have HF := Hid.of ((P3.set (k4.trans kf)).pr)
  obtain ⟨⟨e0, e1, e2, e3, e4, e5⟩, -⟩ := six_cells bf
  clear b3 b4 k4 bb bf kf P3 HP3 HB0 HH2 y0' x4' x2' z0 z4 z2 v0 v4 v2 y0
  go_wp2
  refine bodyPost_ret (v := .agg #[.int .i64 rE, .int .u64 rh, .int .i64 0, .int .i64 0, .string (bs []), .int .i64 0]) ?_ ?_ ?_
  · simp [results, Tryd.results19, go_sem, e0, e1, e2, e3, e4, e5]
  · rfl
  · exact ⟨rfl, HF.out⟩


end Mo
end Go.Proofs.YtagmkkddjdlncaaDoor
