/- TableBack's walk. -/
import Derived.Test.YtmlolkjgniodpaaTabE
set_option linter.unusedVariables false
set_option linter.unusedSimpArgs false
namespace Go.Proofs.Ytmlolkjgniodpaa
open Go.RowKit Go.ChangeMaps
namespace Tab
structure TOp where
  kind : Int
  v : Int
  p : Int
def TOp.enc (o : TOp) : List Value := [.int .i64 o.kind, .int .i64 o.v, .int .i64 o.p]
theorem op_cells {w : World} {A : Option Addr} {xs : List TOp} (h : Rd w A (xs.flatMap TOp.enc)) (j : Nat) (hj : j < xs.length) :
    ∃ b o s x y z, A = some ⟨b, o, s⟩ ∧ w.cell? ((⟨b, o, s⟩ : Addr).add (j * 3)) = some (.int .i64 x) ∧ w.cell? ⟨((⟨b, o, s⟩ : Addr).add (j * 3)).block, ((⟨b, o, s⟩ : Addr).add (j * 3)).off + 1, none⟩ = some (.int .i64 y) ∧
      w.cell? ⟨((⟨b, o, s⟩ : Addr).add (j * 3)).block, ((⟨b, o, s⟩ : Addr).add (j * 3)).off + 2, none⟩ = some (.int .i64 z) := by
  have e := List.getElem?_eq_getElem hj
  have e0 := flatMap_get TOp.enc 3 (fun _ => rfl) xs j _ e 0 (by omega)
  have e1 := flatMap_get TOp.enc 3 (fun _ => rfl) xs j _ e 1 (by omega)
  have e2 := flatMap_get TOp.enc 3 (fun _ => rfl) xs j _ e 2 (by omega)
  obtain ⟨ad, rfl, h0⟩ := h _ _ e0
  obtain ⟨ad', ha, h1⟩ := h _ _ e1
  cases ha
  obtain ⟨ad', ha, h2⟩ := h _ _ e2
  cases ha
  exact ⟨ad.block, ad.off, ad.spot, _, _, _, rfl, h0, cell_field (by omega) h1, cell_field (by omega) h2⟩
/-- A table of pairs that go there and back; its blocks are from B on. -/
def Tb (B : Nat) (w : World) (b m n : Nat) (E G : Prs) : Prop := At w b m n E G ∧ Inv E G ∧ B ≤ b ∧ B ≤ m ∧ B ≤ n
theorem Tb.old {B : Nat} {w w' : World} {b m n : Nat} {E G : Prs} (h : Tb B w b m n E G) (k : Keeps (fun _ => False) w w') : Tb B w' b m n E G := ⟨h.1.old k, h.2⟩
theorem Tb.fresh {B : Nat} {w w' w0 : World} {b m n : Nat} {E G : Prs} (h : Tb B w b m n E G) (k0 : Keeps (fun _ => False) w0 w) (hB : w0.heap.size ≤ B) (k : Keeps (fun x => x = m ∨ x = n) w w') : Keeps (fun _ => False) w0 w' :=
  k0.trans' k (fun x hx hl => by have := h.2.2.2; omega)
theorem tb_map {B : Nat} {w : World} {b m n : Nat} {E G : Prs} (v p : Int) (h : Tb B w b m n E G) :
    Calls Try.prog 34 #[.pointer (some ⟨b, 0, none⟩), .int .i64 v, .int .i64 p] w fun e w' => e = .returned (.int .i64 (mapE E G v p)) ∧ Tb B w' b m n (mapS E G v p).1 (mapS E G v p).2 ∧ Keeps (fun x => x = m ∨ x = n) w w' :=
  (map_any w b m n E G v p h.1).mono fun e w' ⟨h1, h2, h3⟩ => ⟨h1, ⟨h2, h.2.1.map v p, h.2.2⟩, h3⟩
theorem tb_unmap {B : Nat} {w : World} {b m n : Nat} {E G : Prs} (v : Int) (h : Tb B w b m n E G) :
    Calls Try.prog 38 #[.pointer (some ⟨b, 0, none⟩), .int .i64 v] w fun e w' => e = .returned (.tuple #[.int .i64 (unE E v).1, .int .i64 (unE E v).2]) ∧ Tb B w' b m n (unS E G v).1 (unS E G v).2 ∧ Keeps (fun x => x = m ∨ x = n) w w' :=
  (unmap_any w b m n E G v h.1).mono fun e w' ⟨h1, h2, h3⟩ => ⟨h1, ⟨h2, h.2.1.un v, h.2.2⟩, h3⟩
theorem tb_swap {B : Nat} {w : World} {b m n : Nat} {E G : Prs} (v p : Int) (h : Tb B w b m n E G) :
    Calls Try.prog 44 #[.pointer (some ⟨b, 0, none⟩), .int .i64 v, .int .i64 p] w fun e w' => e = .returned (.tuple #[.int .i64 (swE E G v p).1, .int .i64 (swE E G v p).2]) ∧ Tb B w' b m n (swS E G v p).1 (swS E G v p).2 ∧ Keeps (fun x => x = m ∨ x = n) w w' :=
  (swap_any w b m n E G v p h.1).mono fun e w' ⟨h1, h2, h3⟩ => ⟨h1, ⟨h2, h.2.1.sw v p, h.2.2⟩, h3⟩
theorem tb_new (w : World) : Calls Try.prog 32 #[] w fun e w' => ∃ b m n, e = .returned (.pointer (some ⟨b, 0, none⟩)) ∧ Tb w.heap.size w' b m n [] [] ∧ Keeps (fun _ => False) w w' :=
  (new_any w).mono fun e w' ⟨b, m, n, h1, h2, h3, h4, h5, h6⟩ => ⟨b, m, n, h1, ⟨h2, Inv.nil, h3, h4, h5⟩, h6⟩

theorem eqI (x : Int) : (x == x) = true := by simp
theorem neI (x : Int) : (x != x) = false := by simp
set_option maxRecDepth 100000 in
set_option maxHeartbeats 8000000 in
theorem back_any (w : World) (A : Option Addr) (cap : Nat) (xs : List TOp) (v p : Int) (ha : Rd w A (xs.flatMap TOp.enc)) (hx : xs.length ≤ maxLen) :
    Calls Try.prog 6 #[.slice A xs.length cap, .int .i64 v, .int .i64 p] w fun e w' => e = .returned (.bool true) ∧ Below w.heap.size w w' := by
  unfold maxLen at hx
  by_cases hb : xs.length ≤ 200
  · have hb' : decide ((xs.length : Int) > 200) = false := by simp; omega
    go_enter Try.func6, Try.ntmps6
    go_wp2_with fail
    refine (tb_new w).mono ?_
    rintro e w1 ⟨b, m, n, rfl, t1, k1⟩
    go_wp2_with fail
    refine (awake_any w1).mono ?_
    rintro e w2 ⟨rfl, k2⟩
    have t2 := t1.old k2
    have k02 := k1.trans k2
    clear t1 k1 k2
    go_wp2_with fail
    go_loopw [31] (fun i wr => ∃ (j : Nat) (E G : Prs), j ≤ xs.length ∧ i = .int .i64 j ∧ Tb w.heap.size wr b m n E G ∧ E.length ≤ j ∧ Keeps (fun _ => False) w wr) (fun i _ => xs.length - (intOf i).toNat)
    case atStart => exact ⟨0, [], [], Nat.zero_le _, rfl, t2, by simp, k02⟩
    case round =>
      clear t2 k02
      obtain ⟨j, E, G, hj, rfl, t, hE, kp⟩ := hrel
      by_cases hlt : j < xs.length
      · obtain ⟨b1, o1, s1, kind, vv, pp, rfl, hc1, hc2, hc3⟩ := op_cells (Rd.old ha kp) j hlt
        have hk1 : decide ((j : Int) < xs.length) = true := by simp; omega
        obtain ⟨w4, hw4⟩ : ∃ w4, wr.alloc (.cells #[.int .i64 kind, .int .i64 vv, .int .i64 pp] 56) = w4 := ⟨_, rfl⟩
        have k4 : Keeps (fun _ => False) wr w4 := by rw [← hw4]; exact (Keeps.refl _ _).alloc _
        have hob : w4.heap[wr.heap.size]? = some (.cells #[.int .i64 kind, .int .i64 vv, .int .i64 pp] 56 (0, 0)) := by rw [← hw4]; exact alloc_new _ _
        have d1 := cell_of hob 1 rfl
        have d2 := cell_of hob 2 rfl
        have t4 := t.old k4
        have k04 := kp.trans k4
        go_wp2_with fail
        refine (tb_map vv pp t4).mono ?_
        rintro e w5 ⟨rfl, t5, k5⟩
        have k05 := t4.fresh k04 (Nat.le_refl _) k5
        go_wp2
        go_roundw
        case rel =>
          refine ⟨j + 1, _, _, by omega, by go_num, t5, ?_, k05⟩
          have : (mapS E G vv pp).1.length ≤ E.length + 1 := by
            unfold mapS; split
            · simp only []; unfold eset; split <;> simp
            · simp
          omega
        case measure => simp [intOf]; omega
      · have hk1 : decide ((j : Int) < xs.length) = false := by simp; omega
        have hel : E.length ≤ 200 := by omega
        have q1 := len_any wr b m n E G t.1
        have q2 := find_any wr b m n E G v t.1
        have q3 := holder_any wr b m n E G p t.1
        have q4 := tb_map v p t
        by_cases hz : mapE E G v p = 0
        · have hbnd : ¬ (v < 256 ∨ 6400 ≤ v ∨ p < 0 ∨ 1048576 < p) := fun hh => by unfold mapE at hz; rw [if_pos hh] at hz; omega
          have hfree : ¬ (0 ≤ fnd E v ∨ 0 ≤ fnd G p) := fun hh => by unfold mapE at hz; rw [if_neg hbnd, if_pos hh] at hz; omega
          have ev : eget E v = none := t.2.1.neg (by omega)
          have ep : eget G p = none := t.2.1.negG (by omega)
          rw [fnd_none ev] at q2
          rw [fnd_none ep] at q3
          have hs : mapS E G v p = (eset E v p, eset G p v) := by unfold mapS; rw [if_pos hz]
          rw [hz, hs] at q4
          have q5 := fun (w5 : World) (h : Tb w.heap.size w5 b m n (eset E v p) (eset G p v)) => len_any w5 b m n _ _ h.1
          have q6 := fun (w5 : World) (h : Tb w.heap.size w5 b m n (eset E v p) (eset G p v)) => find_any w5 b m n _ _ v h.1
          have q7 := fun (w5 : World) (h : Tb w.heap.size w5 b m n (eset E v p) (eset G p v)) => holder_any w5 b m n _ _ p h.1
          have q8 := fun (w5 : World) (h : Tb w.heap.size w5 b m n (eset E v p) (eset G p v)) => tb_unmap v h
          have f1 : fnd (eset E v p) v = p := fnd_some (by rw [eget_eset, if_pos rfl])
          have f2 : fnd (eset G p v) p = v := fnd_some (by rw [eget_eset, if_pos rfl])
          have f3 : ((eset E v p).length : Int) = E.length + 1 := by rw [eset_none ev]; simp
          have f4 : unE (eset E v p) v = (p, 0) := by unfold unE; rw [f1, if_neg (by omega)]
          have f5 : unS (eset E v p) (eset G p v) v = (E, G) := by unfold unS; rw [f1, if_neg (by omega), edel_eset ev, edel_eset ep]
          simp only [f1, f2, f3, f4, f5] at q5 q6 q7 q8
          have q9 := fun (w5 : World) (h : Tb w.heap.size w5 b m n E G) => len_any w5 b m n _ _ h.1
          have q10 := fun (w5 : World) (h : Tb w.heap.size w5 b m n E G) => find_any w5 b m n _ _ v h.1
          have q11 := fun (w5 : World) (h : Tb w.heap.size w5 b m n E G) => holder_any w5 b m n _ _ p h.1
          rw [fnd_none ev] at q10
          rw [fnd_none ep] at q11
          have g1 : 0 ≤ p ∧ p ≤ 1048576 ∧ 256 ≤ v ∧ v < 6400 := by omega
          clear f1 f2 f3 f4 f5 hs hz ev ep hfree hbnd
          have hbb := t.2.2
          generalize eset E v p = E' at *
          generalize eset G p v = G' at *
          generalize hel' : E.length = el at *
          have e1 := eqI (el : Int)
          have e2 := neI (el + 1 : Int)
          have e3 := eqI p
          have e4 := neI p
          have e5 := eqI v
          have e6 := neI v
          go_wp2_with fail
          refine q1.mono ?_
          rintro e w1 ⟨rfl, rfl⟩
          go_wp2_with fail
          refine q2.mono ?_
          rintro e w1 ⟨rfl, rfl⟩
          go_wp2_with fail
          refine q3.mono ?_
          rintro e w1 ⟨rfl, rfl⟩
          go_wp2_with fail
          refine q4.mono ?_
          rintro e w5 ⟨rfl, t5, k5⟩
          go_wp2_with fail
          refine (q6 w5 t5).mono ?_
          rintro e w1 ⟨rfl, rfl⟩
          go_wp2_with fail
          refine (q7 w5 t5).mono ?_
          rintro e w1 ⟨rfl, rfl⟩
          go_wp2_with fail
          refine (q5 w5 t5).mono ?_
          rintro e w1 ⟨rfl, rfl⟩
          go_wp2_with fail
          refine (q8 w5 t5).mono ?_
          rintro e w6 ⟨rfl, t6, k6⟩
          go_wp2_with fail
          refine (q9 w6 t6).mono ?_
          rintro e w1 ⟨rfl, rfl⟩
          go_wp2_with fail
          refine (q10 w6 t6).mono ?_
          rintro e w1 ⟨rfl, rfl⟩
          go_wp2_with fail
          refine (q11 w6 t6).mono ?_
          rintro e w1 ⟨rfl, rfl⟩
          go_wp2
          go_ret
          exact ⟨rfl, (t5.fresh (t.fresh kp (Nat.le_refl _) k5) (Nat.le_refl _) k6).below⟩
        · have hs : mapS E G v p = (E, G) := by unfold mapS; rw [if_neg hz]
          rw [hs] at q4
          have hz' : (mapE E G v p != 0) = true := by simpa using hz
          have q5 := fun (w5 : World) (h : Tb w.heap.size w5 b m n E G) => len_any w5 b m n _ _ h.1
          have q6 := fun (w5 : World) (h : Tb w.heap.size w5 b m n E G) => find_any w5 b m n _ _ v h.1
          have q7 := fun (w5 : World) (h : Tb w.heap.size w5 b m n E G) => holder_any w5 b m n _ _ p h.1
          clear hs hz
          generalize mapE E G v p = er at *
          generalize fnd E v = x at *
          generalize fnd G p = y at *
          generalize hel' : E.length = el at *
          have e1 := eqI (el : Int)
          have e2 := eqI x
          have e3 := eqI y
          go_wp2_with fail
          refine q1.mono ?_
          rintro e w1 ⟨rfl, rfl⟩
          go_wp2_with fail
          refine q2.mono ?_
          rintro e w1 ⟨rfl, rfl⟩
          go_wp2_with fail
          refine q3.mono ?_
          rintro e w1 ⟨rfl, rfl⟩
          go_wp2_with fail
          refine q4.mono ?_
          rintro e w5 ⟨rfl, t5, k5⟩
          go_wp2_with fail
          refine (q5 w5 t5).mono ?_
          rintro e w1 ⟨rfl, rfl⟩
          go_wp2_with fail
          refine (q6 w5 t5).mono ?_
          rintro e w1 ⟨rfl, rfl⟩
          go_wp2_with fail
          refine (q7 w5 t5).mono ?_
          rintro e w1 ⟨rfl, rfl⟩
          go_wp2
          go_ret
          exact ⟨rfl, (t.fresh kp (Nat.le_refl _) k5).below⟩
  · have hb' : decide ((xs.length : Int) > 200) = true := by simp; omega
    go_enter Try.func6, Try.ntmps6
    go_wp2_with fail
    refine (tb_new w).mono ?_
    rintro e w1 ⟨b, m, n, rfl, t1, k1⟩
    go_wp2_with fail
    refine (awake_any w1).mono ?_
    rintro e w2 ⟨rfl, k2⟩
    have k02 := k1.trans k2
    go_wp2_with fail
    refine (awake_any w2).mono ?_
    rintro e w3 ⟨rfl, k3⟩
    go_wp2
    go_ret
    exact ⟨rfl, (k02.trans k3).below⟩
end Tab
end Go.Proofs.Ytmlolkjgniodpaa
