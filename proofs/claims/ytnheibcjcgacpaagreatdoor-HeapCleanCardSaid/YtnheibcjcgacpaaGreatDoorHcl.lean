/- HeapClean's walk (its heads printed by gen_hcl.py). -/
import Derived.Test.YtnheibcjcgacpaaGreatDoorTwo
set_option linter.unusedVariables false
set_option linter.unusedSimpArgs false
namespace Go.Proofs.YtnheibcjcgacpaaGreatDoor
open Go.RowKit Go.ChangeMaps
namespace Hm
open He Hin
def ClnR (w : World) (e : Ending) (w' : World) : Prop := e = .returned (.bool true) ∧ Keeps (fun _ => False) w w'
/-- What holds in the loop. -/
structure CI (w : World) (m : MX) (P C : Nat) (r0 r1 : Value) (W0 W1 : List Int) (b : Nat) (z : TS) (wr : World) : Prop where
  tw : TW w m P C r0 r1 z wr
  W : ∀ i, i < 2 → (z.h i).H.W = if i = 0 then W0 else W1
  T : z.S.T.length ≤ b
theorem CI.old {w : World} {m : MX} {P C : Nat} {r0 r1 : Value} {W0 W1 : List Int} {b : Nat} {z : TS} {wr w' : World} (h : CI w m P C r0 r1 W0 W1 b z wr) (k : Keeps (fun _ => False) wr w') : CI w m P C r0 r1 W0 W1 b z w' := ⟨h.tw.old k, h.W, h.T⟩
theorem CI.up {w : World} {m : MX} {P C : Nat} {r0 r1 : Value} {W0 W1 : List Int} {b b' : Nat} {z : TS} {wr : World} (h : CI w m P C r0 r1 W0 W1 b z wr) (k : b ≤ b') : CI w m P C r0 r1 W0 W1 b' z wr := ⟨h.tw, h.W, Nat.le_trans h.T k⟩
theorem CI.next {wr0 : World} {w : World} {m : MX} {P C : Nat} {r0 r1 : Value} {W0 W1 : List Int} {b b' : Nat} {z z' : TS} {wr w' : World} {i : Nat} {t' : T3} (h : CI w m P C r0 r1 W0 W1 b z wr) (hi : i < 2) (tw : TW w m P C r0 r1 z' w') (n : Nxt m C i z z' t' wr0 w') (hW : t'.H.W = (z.h i).H.W) (hT : z'.S.T.length ≤ b') : CI w m P C r0 r1 W0 W1 b' z' w' := by
  refine ⟨tw, fun k hk => ?_, hT⟩
  by_cases e : k = i
  · subst e
    have h1 : (z'.h k).H = t'.H := congrArg T3.H n.t
    rw [h1, hW]; exact h.W k hk
  · obtain rfl : k = 1 - i := by omega
    rw [n.o]; exact h.W _ hk
theorem CI.Wle {w : World} {m : MX} {P C : Nat} {r0 r1 : Value} {W0 W1 : List Int} {b : Nat} {z : TS} {wr : World} (h : CI w m P C r0 r1 W0 W1 b z wr) {i : Nat} (hi : i < 2) (hw : W0.length ≤ 1500 ∧ W1.length ≤ 1500) : (z.h i).H.W.length ≤ 1000000 := by
  rw [h.W i hi]
  split <;> omega
theorem TW.hcell {w : World} {m : MX} {P C : Nat} {r0 r1 : Value} {z : TS} {wr : World} (h : TW w m P C r0 r1 z wr) {i : Nat} (hi : i < 2) : wr.cell? ⟨m.pb, 2 + i, none⟩ = some (.pointer (some ⟨(z.h i).X.hb, 0, none⟩)) := by
  rcases two hi with rfl | rfl
  · exact cell_of h.pr 2 rfl
  · exact cell_of h.pr 3 rfl
theorem TW.acell {w : World} {m : MX} {P C : Nat} {r0 r1 : Value} {z : TS} {wr : World} (h : TW w m P C r0 r1 z wr) : wr.cell? ⟨m.pb, 0, none⟩ = some (.pointer (some ⟨m.p.a, 0, none⟩)) := cell_of h.pr 0 rfl
theorem TW.mcell {w : World} {m : MX} {P C : Nat} {r0 r1 : Value} {z : TS} {wr : World} (h : TW w m P C r0 r1 z wr) : wr.cell? ⟨m.pb, 1, none⟩ = some (.pointer (some ⟨m.cp.m, 0, none⟩)) := cell_of h.pr 1 rfl
theorem usable_at {H : HS} {c s k : Nat} (hc : c < 24) (hs : s < Pc.slots c) (hk : k < Pc.nb c) (hh : hadB H c s k = true) : usableR H ((Pc.addr c s k : Nat) : Int) = ((Pc.un c : Int), 0) := by
  unfold usableR
  rw [blk_at hc hs hk, hh]
  rfl
def fillB (c : UInt8) (q u : Nat) : Bs := List.replicate q c ++ List.replicate (u - q) 0
theorem fill0 (c : UInt8) (u : Nat) : fillB c 0 u = List.replicate u 0 := by unfold fillB; simp
theorem fill_all (c : UInt8) (u : Nat) : fillB c u u = List.replicate u c := by unfold fillB; simp
theorem fill_len (c : UInt8) {q u : Nat} (h : q ≤ u) : (fillB c q u).length = u := by unfold fillB; rw [List.length_append, List.length_replicate, List.length_replicate]; omega
theorem fill_get (c : UInt8) {q u : Nat} (h : q < u) : (u8s (fillB c q u))[q]? = some (.int .u8 0) := by
  unfold fillB u8s
  rw [List.getElem?_map, List.getElem?_append_right (by rw [List.length_replicate]; exact Nat.le_refl _), List.length_replicate, Nat.sub_self, List.getElem?_replicate, if_pos (by omega)]
  rfl
theorem fill_set (c : UInt8) {q u : Nat} (h : q < u) : (fillB c q u).set q c = fillB c (q + 1) u := by
  unfold fillB
  rw [List.set_append, List.length_replicate, if_neg (Nat.lt_irrefl _), Nat.sub_self, List.replicate_succ', List.append_assoc]
  congr 1
  obtain ⟨d, hd⟩ : ∃ d, u - q = d + 1 := ⟨u - q - 1, by omega⟩
  rw [hd, show u - (q + 1) = d by omega, List.replicate_succ]
  rfl
def rng (n : Nat) : List Int := (List.range n).map (fun i : Nat => (i : Int))
theorem rng_len (n : Nat) : (rng n).length = n := by unfold rng; rw [List.length_map, List.length_range]
theorem rng_succ (n : Nat) : ints (rng (n + 1)) = ints (rng n) ++ [.int .i64 (n : Int)] := by unfold rng ints; rw [List.range_succ, List.map_append, List.map_append]; rfl
theorem rng_mem {n c : Nat} (h : c < n) : (c : Int) ∈ rng n := List.mem_map.2 ⟨c, List.mem_range.2 h, rfl⟩
/-- Calls in a row. -/
structure Sq (m : MX) (C : Nat) (z z' : TS) (wr w' : World) : Prop where
  k : Keeps (zfp m C z) wr w'
  f : ∀ x, zfp m C z' x → zfp m C z x ∨ wr.heap.size ≤ x
theorem Sq.refl (m : MX) (C : Nat) (z : TS) {wr w' : World} (k : Keeps (fun _ => False) wr w') : Sq m C z z wr w' := ⟨k.mono (fun _ _ x => x.elim), fun _ h => .inl h⟩
theorem Sq.next {m : MX} {C : Nat} {z z1 z2 : TS} {wr w1 w2 w1' : World} {i : Nat} {t' : T3} (h : Sq m C z z1 wr w1) (n : Nxt m C i z1 z2 t' w1' w2) (k : Keeps (fun _ => False) w1 w1') : Sq m C z z2 wr w2 := by
  have s1 := h.k.size
  have s2 := k.size
  have kk : Keeps (zfp m C z1) w1 w2 := by
    have k2 : Keeps (zfp m C z1) w1 w1' := k.mono (fun _ _ x => x.elim)
    exact k2.trans n.k
  refine ⟨h.k.trans' kk (fun x hx hl => ?_), fun x hx => ?_⟩
  · rcases h.f x hx with e | e
    · exact e
    · omega
  · rcases n.f x hx with e | e
    · exact h.f x e
    · exact .inr (by omega)
/-- A row that none of the heaps holds stands. -/
theorem Sq.rd {m : MX} {C : Nat} {z z' : TS} {wr w' : World} (h : Sq m C z z' wr w') {A : Option Addr} {L : List Value} (hr : Rd wr A L) (hA : ∀ ad, A = some ad → ¬ zfp m C z ad.block) : Rd w' A L := hr.keep h.k (fun ad ha _ hx => hA ad ha hx)
/-- The end: the heaps so far are empty. -/
structure NI2 (w : World) (m : MX) (P C : Nat) (r0 r1 : Value) (W0 W1 : List Int) (h0 h1 : Nat) (j : Nat) (z : TS) (wr : World) : Prop where
  ci : CI w m P C r0 r1 W0 W1 (10000 + 5000000 * j) z wr
  e : ∀ i, i < j → i < 2 → (z.h i).H.E = []
  h0 : (z.h 0).X.hb = h0
  h1 : (z.h 1).X.hb = h1
theorem NI2.next {w : World} {m : MX} {P C : Nat} {r0 r1 : Value} {W0 W1 : List Int} {h0 h1 j : Nat} {z z' : TS} {wr w' : World} (h : NI2 w m P C r0 r1 W0 W1 h0 h1 j z wr) (hj : j < 2) (ci : CI w m P C r0 r1 W0 W1 (10000 + 5000000 * (j + 1)) z' w') (o : z'.h (1 - j) = z.h (1 - j)) (hb : (z'.h j).X.hb = (z.h j).X.hb) (e : (z'.h j).H.E = []) : NI2 w m P C r0 r1 W0 W1 h0 h1 (j + 1) z' w' := by
  rcases two hj with rfl | rfl
  · have o : z'.h 1 = z.h 1 := o
    exact ⟨ci, fun i h1 h2 => by obtain rfl : i = 0 := by omega
                                 exact e, hb.trans h.h0, by rw [o]; exact h.h1⟩
  · have o : z'.h 0 = z.h 0 := o
    exact ⟨ci, fun i h1 h2 => by
      rcases two h2 with rfl | rfl
      · rw [o]; exact h.e 0 (by omega) (by omega)
      · exact e, by rw [o]; exact h.h0, hb.trans h.h1⟩
theorem hh_index (a b : Value) (w : World) : (Instr.index 36 (.agg #[a, b]) (.int .i64 0)).run Tryz.prog w = .ok a w ∧ (Instr.index 36 (.agg #[a, b]) (.int .i64 1)).run Tryz.prog w = .ok b w := by
  have hu := Tryz.underlying36
  constructor <;> simp [Instr.index, run_underlying hu, asIntOf, go_sem]
theorem NI2.index {w : World} {m : MX} {P C : Nat} {r0 r1 : Value} {W0 W1 : List Int} {h0 h1 j : Nat} {z : TS} {wr : World} (h : NI2 w m P C r0 r1 W0 W1 h0 h1 j z wr) (hj : j < 2) : ∃ hb, (∀ wx, (Instr.index 36 (.agg #[.pointer (some ⟨h0, 0, none⟩), .pointer (some ⟨h1, 0, none⟩)]) (.int .i64 (j : Int))).run Tryz.prog wx = .ok (.pointer (some ⟨hb, 0, none⟩)) wx) ∧ (z.h j).X.hb = hb := by
  rcases two hj with rfl | rfl
  · exact ⟨h0, fun wx => (hh_index _ _ wx).1, h.h0⟩
  · exact ⟨h1, fun wx => (hh_index _ _ wx).2, h.h1⟩
/-- Amid the giving back. -/
structure FI2 (w : World) (m : MX) (P C : Nat) (r0 r1 : Value) (W0 W1 : List Int) (j : Nat) (z0 : TS) (ws : World) (bl : List Int) (q : Nat) (z : TS) (wr : World) : Prop where
  ci : CI w m P C r0 r1 W0 W1 (10000 + 5000000 * j + 18 * q) z wr
  mem : ∀ a, a ∈ blocksL (z.h j).H ↔ a ∈ bl.drop q
  o : z.h (1 - j) = z0.h (1 - j)
  hb : (z.h j).X.hb = (z0.h j).X.hb
  sq : Sq m C z0 z ws wr
theorem FI2.next {w : World} {m : MX} {P C : Nat} {r0 r1 : Value} {W0 W1 : List Int} {j : Nat} {z0 : TS} {ws : World} {bl : List Int} {q : Nat} {z z' : TS} {wr w' : World} (h : FI2 w m P C r0 r1 W0 W1 j z0 ws bl q z wr) (hj : j < 2) (hq : q < bl.length) (hn : bl.Nodup) (tw : TW w m P C r0 r1 z' w') (n : Nxt m C j z z' (freeT (z.t j) (bl.getD q 0)).1 wr w') (hT : z'.S.T.length ≤ z.S.T.length + 18) : FI2 w m P C r0 r1 W0 W1 j z0 ws bl (q + 1) z' w' := by
  have f := free_next (t := z.t j) (h.ci.tw.hi j hj) hq hn h.mem
  have hH : (z'.h j).H = (freeT (z.t j) (bl.getD q 0)).1.H := congrArg T3.H n.t
  refine ⟨h.ci.next hj tw n (free_W (h.ci.tw.hi j hj)) (by have := h.ci.T; omega), fun a => by rw [hH]; exact f.2 a, n.o.trans h.o, n.hb.trans h.hb, h.sq.next n (Keeps.refl _ _)⟩
def ArW (w : World) (m : MX) (P C : Nat) (r0 r1 : Value) (wr : World) (z : TS) (a n : Nat) (e : Ending) (w' : World) : Prop := e = .returned (.tuple #[.string (bs ((z.S.B.drop a).take n)), .int .i64 0]) ∧ ∃ z', TW w m P C r0 r1 z' w' ∧ Nxt m C 0 z z' ⟨(z.h 0).H, ⟨z.S.B, Ar.note z.S.T a n false⟩, z.M⟩ wr w'
theorem tw_aread {w : World} {m : MX} {P C : Nat} {r0 r1 : Value} {z : TS} {wr : World} (h : TW w m P C r0 r1 z wr) (a n : Nat) (hn : a + n ≤ z.S.B.length) (hT : z.S.T.length ≤ 1000000000) :
    Calls Tryz.prog 36 #[.pointer (some ⟨m.p.a, 0, none⟩), .int .i64 (a : Int), .int .i64 (n : Int)] wr (ArW w m P C r0 r1 wr z a n) := by
  refine (Ar.read_any wr m.p z.v z.S a n (h.j 0 (by omega)).ar hn hT).mono ?_
  rintro e w' ⟨rfl, r⟩
  obtain ⟨v', hG⟩ := (h.j 0 (by omega)).arena r rfl
  exact ⟨rfl, _, h.step (i := 0) (by omega) hG (hi_T (h.hi 0 (by omega)) _) ⟨⟨rfl, rfl⟩, rfl, fun y h1 h2 => ⟨h1, rfl, h2⟩⟩ (Acc.eq rfl rfl), nxt_set (t' := ⟨(z.h 0).H, ⟨z.S.B, Ar.note z.S.T a n false⟩, z.M⟩) h (by omega) hG⟩
set_option maxRecDepth 100000 in
set_option maxHeartbeats 2000000 in
theorem clean_bad (w : World) (P C : Int) (dr : Bool) (A0 A1 A : Option Addr) (n0 c0 n1 c1 L cap : Nat) (hT : Sh.Tab w) (h : ¬ Co.Cfg P C) :
    Calls Tryz.prog 5 #[.agg #[.int .i64 P, .int .i64 C, .slice A0 n0 c0, .slice A1 n1 c1], .slice A L cap, .bool dr] w (ClnR w) := by
  obtain ⟨w1, hw1⟩ : ∃ w1, w.alloc (.cells #[.int .i64 P, .int .i64 C, .slice A0 n0 c0, .slice A1 n1 c1] 26) = w1 := ⟨_, rfl⟩
  have k1 : Keeps (fun _ => False) w w1 := by rw [← hw1]; exact (Keeps.refl _ _).alloc _
  have b1 : w1.heap[w.heap.size]? = some (.cells #[.int .i64 P, .int .i64 C, .slice A0 n0 c0, .slice A1 n1 c1] 26 (0, 0)) := by rw [← hw1]; exact alloc_new _ _
  obtain ⟨cb, hcb⟩ : ∃ cb, w.heap.size = cb := ⟨_, rfl⟩
  rw [hcb] at b1
  have x0 := cell_of (v := .int .i64 P) b1 0 rfl
  have x1 := cell_of (v := .int .i64 C) b1 1 rfl
  have x2 := cell_of (v := .slice A0 n0 c0) b1 2 rfl
  have x3 := cell_of (v := .slice A1 n1 c1) b1 3 rfl
  have q1 := made_bad w1 P C A0 A1 n0 c0 n1 c1 h
  have HK := Hid.of (And.intro k1 hT)
  clear h k1 b1 hT
  go_enter Tryz.func5, Tryz.ntmps5
  go_wp2_with fail
  refine q1.mono ?_
  rintro e w2 ⟨rfl, k2⟩
  have HK2 := Hid.of (HK.out.1.trans k2)
  have q2 := awake_any w2 (HK.out.2.old HK2.out)
  clear q1 k2 hw1 hcb
  go_wp2_with fail
  refine q2.mono ?_
  rintro e w3 ⟨rfl, k3⟩
  have HK3 := Hid.of (HK2.out.trans k3)
  have q3 := awake_any w3 (HK.out.2.old HK3.out)
  clear q2 k3
  go_wp2_with fail
  refine q3.mono ?_
  rintro e w4 ⟨rfl, k4⟩
  have HK4 := Hid.of (HK3.out.trans k4)
  clear q3 k4
  go_wp2
  go_ret
  exact ⟨rfl, HK4.out⟩
set_option maxRecDepth 100000 in
set_option maxHeartbeats 4000000 in
theorem clean_good (w : World) (P C : Nat) (dr : Bool) (A0 A1 A : Option Addr) (n0 c0 n1 c1 cap : Nat) (W0 W1 : List Int) (xs : List HOp) (L : Nat) (h : Co.Cfg P C) (hT : Sh.Tab w) (hA0 : A0 = none → n0 = 0 ∧ c0 = 0) (hl0 : W0.length = n0) (hr0 : Rd w A0 (ints W0)) (hA1 : A1 = none → n1 = 0 ∧ c1 = 0) (hl1 : W1.length = n1) (hr1 : Rd w A1 (ints W1)) (hn0 : n0 ≤ 17592186044416) (hn1 : n1 ≤ 17592186044416)
    (hL : xs.length = L) (hr : Rd w A (hops xs)) (hl : L ≤ maxLen) (hok : ∀ x ∈ xs, x.Ok w) (hm : Hid (∀ x ∈ xs, x.m ≤ 17592186044416)) :
    Calls Tryz.prog 5 #[.agg #[.int .i64 P, .int .i64 C, .slice A0 n0 c0, .slice A1 n1 c1], .slice A L cap, .bool dr] w (ClnR w) := by
  obtain ⟨w1, hw1⟩ : ∃ w1, w.alloc (.cells #[.int .i64 P, .int .i64 C, .slice A0 n0 c0, .slice A1 n1 c1] 26) = w1 := ⟨_, rfl⟩
  have k1 : Keeps (fun _ => False) w w1 := by rw [← hw1]; exact (Keeps.refl _ _).alloc _
  have b1 : w1.heap[w.heap.size]? = some (.cells #[.int .i64 P, .int .i64 C, .slice A0 n0 c0, .slice A1 n1 c1] 26 (0, 0)) := by rw [← hw1]; exact alloc_new _ _
  obtain ⟨cb, hcb⟩ : ∃ cb, w.heap.size = cb := ⟨_, rfl⟩
  rw [hcb] at b1
  have x0 := cell_of (v := .int .i64 P) b1 0 rfl
  have x1 := cell_of (v := .int .i64 C) b1 1 rfl
  have x2 := cell_of (v := .slice A0 n0 c0) b1 2 rfl
  have x3 := cell_of (v := .slice A1 n1 c1) b1 3 rfl
  have q1 := made_any w1 P C A0 A1 n0 c0 n1 c1 W0 W1 h (hT.old k1) hA0 hl0 (hr0.old k1) hA1 hl1 (hr1.old k1) hn0 hn1
  unfold MadeR at q1
  have HK := Hid.of (And.intro k1 (And.intro hT (And.intro b1 (And.intro hr (And.intro hL (And.intro hl (And.intro hok (And.intro hl0 h))))))))
  have HL1 := Hid.of hl1
  have HR0 := Hid.of (hr0.old k1)
  have HR1 := Hid.of (hr1.old k1)
  have HN := Hid.of (And.intro (show n0 ≤ 17592186044416 by omega) (show n1 ≤ 17592186044416 by omega))
  clear h k1 b1 hT hA0 hr0 hA1 hr1 hn0 hn1 hr hL hok hl hl0 hl1
  go_enter Tryz.func5, Tryz.ntmps5
  go_wp2_with fail
  refine q1.mono ?_
  rintro e w2 ⟨m, X0, X1, r0, r1, rfl, M⟩
  have k2 := M.1.keeps
  have HM := Hid.of M
  have HK2 := Hid.of (HK.out.1.trans k2)
  have q2 := awake_any w2 (HK.out.2.1.old HK2.out)
  have b2 := k2.at HK.out.2.2.1 (fun x => x)
  clear q1 k2 M hw1 hcb x0 x1 x2 x3
  go_wp2_with fail
  refine q2.mono ?_
  rintro e w3 ⟨rfl, k3⟩
  have HK3 := Hid.of (And.intro (HK2.out.trans k3) k3)
  have b3 := k3.at b2 (fun x => x)
  have x0 := cell_of (v := .int .i64 P) b3 0 rfl
  have x1 := cell_of (v := .int .i64 C) b3 1 rfl
  have x2 := cell_of (v := .slice A0 n0 c0) b3 2 rfl
  have x3 := cell_of (v := .slice A1 n1 c1) b3 3 rfl
  have q3 := long_any w3 P C A0 A1 A n0 c0 n1 c1 cap xs L HK.out.2.2.2.2.1 (HK.out.2.2.2.1.old HK3.out.1) HK.out.2.2.2.2.2.1 hm (Hid.of HN.out.1) (Hid.of HN.out.2)
  unfold LongH at q3
  clear q2 k3 b2 b3
  go_wp2_with fail
  refine q3.mono ?_
  rintro e w4 ⟨lb, rfl, k4, hlb⟩
  have HK4 := Hid.of (And.intro (HK3.out.1.trans k4) (HK3.out.2.trans k4))
  clear q3 k4 x0 x1 x2 x3
  cases lb with
  | true =>
    have q4 := awake_any w4 (HK.out.2.1.old HK4.out.1)
    clear hlb
    go_wp2_with fail
    refine q4.mono ?_
    rintro e w5 ⟨rfl, k5⟩
    have HK5 := Hid.of (HK4.out.1.trans k5)
    clear q4 k5
    go_wp2
    go_ret
    exact ⟨rfl, HK5.out⟩
  | false =>
    have HL := Hid.of (hlb rfl)
    clear hlb
    have hTW := (tw_start HK.out.2.2.2.2.2.2.2.2 HM.out).old HK4.out.2
    have HS : Hid (CI w1 m P C r0 r1 W0 W1 (40 * 0) (tz m P C W0 W1 X0 X1) w4) := Hid.of ⟨hTW, fun i hi => by rcases two hi with rfl | rfl <;> rfl, Nat.le_refl _⟩
    clear hTW HK3
    go_wp2_with fail
    go_loopw [42] (fun i wr => ∃ (k : Nat) (z : TS), k ≤ L ∧ i = .int .i64 k ∧ Hid (CI w1 m P C r0 r1 W0 W1 (40 * k) z wr)) (fun i _ => L - (intOf i).toNat)
    case atStart => exact ⟨0, _, by omega, rfl, HS⟩
    case round =>
      clear HS
      obtain ⟨k, z, hk, rfl, HI⟩ := hrel
      by_cases hlt : k < L
      · have rr := (HK.out.2.2.2.1.old HK.out.1).old HI.out.tw.K
        obtain ⟨bb, bo, bs', kk, n, tw, OB, om, oc, OW, hg, rfl, y0, y1, y2, y3⟩ := rhop rr k (by rw [HK.out.2.2.2.2.1]; exact hlt)
        have hkd : decide ((k : Int) < (L : Int)) = true := by simp; omega
        have hx := HK.out.2.2.2.2.2.2.1 _ (List.mem_of_getElem? hg)
        have hn64 := hx.n
        obtain ⟨w5, hw5⟩ : ∃ w5, wr.alloc (.cells #[.int .i64 kk, .int .i64 n, .bool tw, .slice OB om oc] 44) = w5 := ⟨_, rfl⟩
        have k5 : Keeps (fun _ => False) wr w5 := by rw [← hw5]; exact (Keeps.refl _ _).alloc _
        have b5 : w5.heap[wr.heap.size]? = some (.cells #[.int .i64 kk, .int .i64 n, .bool tw, .slice OB om oc] 44 (0, 0)) := by rw [← hw5]; exact alloc_new _ _
        obtain ⟨ob, hob⟩ : ∃ ob, wr.heap.size = ob := ⟨_, rfl⟩
        rw [hob] at b5
        have o0 := cell_of (v := .int .i64 kk) b5 0 rfl
        have o1 := cell_of (v := .int .i64 n) b5 1 rfl
        have H5 := Hid.of (HI.out.old k5)
        have HB5 := Hid.of (And.intro b5 (show k < 250 ∧ W0.length ≤ 1500 ∧ W1.length ≤ 1500 from by
          have e1 := HL.out.1
          have e2 := HL.out.2.2.1 (fun e => by rw [e] at hg; cases hg)
          have e3 := HK.out.2.2.2.2.1
          have e4 := HK.out.2.2.2.2.2.2.2.1
          have e5 := HL1.out
          exact ⟨by omega, by omega, by omega⟩))
        have hk250 := HB5.out.2.1
        clear rr hg hx k5 b5 HI
        have hii : k % 2 < 2 := Nat.mod_lt _ (by omega)
        have hc5 := H5.out.tw.hcell hii
        by_cases h1 : kk = 1
        · have t1 : (kk == 1) = true := by simpa using h1
          clear h1
          have hmg := malloc_gave (n := n) (H5.out.tw.hi (k % 2) hii)
          have hWW := malloc_W (n := n) (H5.out.tw.hi (k % 2) hii)
          have qm := tw_malloc H5.out.tw hii n (H5.out.Wle hii HB5.out.2.2) (by have := H5.out.T; omega)
          unfold MalW hptr at qm
          obtain ⟨hb, hhb⟩ : ∃ hb, (z.h (k % 2)).X.hb = hb := ⟨_, rfl⟩
          rw [hhb] at qm hc5
          obtain ⟨r, hr⟩ : ∃ r, mallocT (z.t (k % 2)) n = r := ⟨_, rfl⟩
          obtain ⟨t', av, ev⟩ := r
          rw [hr] at qm hmg hWW
          dsimp only at qm hmg hWW
          have HWW := Hid.of (And.intro hWW hhb)
          clear hr hWW
          rcases hmg with ⟨hne, rfl, rfl, hev⟩ | ⟨rfl, c, s, k', hkn, rfl, hgv⟩
          · have hev' : ev = 2 ∨ ev = 13 := by rcases hev with h | h; exact .inl h.1; exact .inr h.1
            have te : (ev == 0) = false := by simpa using hne
            clear hev hne hev' hhb
            go_wp2_with fail
            refine qm.mono ?_
            rintro e w6 ⟨rfl, z', tw', nx, hT'⟩
            have H6 := Hid.of (H5.out.next hii tw' nx rfl (b' := 40 * (k + 1)) (by have := H5.out.T; omega))
            clear qm tw' nx hT' hw5 hob y0 y1 y2 y3 o0 o1 hc5 H5 HB5 HWW
            go_wp2
            go_roundw
            case rel => exact ⟨k + 1, z', by omega, by go_num, H6⟩
            case measure => simp [intOf]; omega
          · have hg2 := hgv.had c s k' hgv.hc hgv.hs hgv.hk
            rw [if_pos ⟨rfl, rfl, rfl⟩] at hg2
            have HGV := Hid.of (And.intro hgv hg2)
            clear hgv hg2 hhb hkn
            have hab := addr_lt HGV.out.1.hc HGV.out.1.hs HGV.out.1.hk
            have hc24 := HGV.out.1.hc
            have hur := Pc.un_range HGV.out.1.hc
            go_wp2_with fail
            refine qm.mono ?_
            rintro e w6 ⟨rfl, z', tw', nx, hT'⟩
            have hH' : (z'.h (k % 2)).H = t'.H := congrArg T3.H nx.t
            have H6 := Hid.of (H5.out.next hii tw' nx HWW.out.1 (b' := 40 * k + 2) (by have := H5.out.T; omega))
            have hhb' : (z'.h (k % 2)).X.hb = hb := by rw [nx.hb, HWW.out.2]
            have HH6 := Hid.of (And.intro (show hadB (z'.h (k % 2)).H c s k' = true by rw [hH']; exact HGV.out.2) hhb')
            have qu := tw_usable H6.out.tw hii ((Pc.addr c s k' : Nat) : Int) (by omega)
            unfold hptr at qu
            rw [hhb', usable_at HGV.out.1.hc HGV.out.1.hs HGV.out.1.hk HH6.out.1] at qu
            obtain ⟨AD, hAD⟩ : ∃ AD, Pc.addr c s k' = AD := ⟨_, rfl⟩
            obtain ⟨u, hu⟩ : ∃ u, Pc.un c = u := ⟨_, rfl⟩
            rw [hAD] at qu hab
            rw [hu] at qu hur hab
            have HAD := Hid.of (And.intro hAD hu)
            rw [hAD]
            clear qm tw' nx hT' hw5 hob y0 y1 y2 y3 o0 o1 hc5 H5 hH' hhb' hAD hu
            go_wp2_with fail
            refine qu.mono ?_
            rintro e w7 ⟨rfl, k7⟩
            have H7 := Hid.of (H6.out.old k7)
            obtain ⟨w8, hw8⟩ : ∃ w8, w7.alloc (.cells (u8s (List.replicate u 0)).toArray 5) = w8 := ⟨_, rfl⟩
            have mk := make_bytes w7 u (by omega)
            rw [hw8] at mk
            obtain ⟨gb, hgb⟩ : ∃ gb, w7.heap.size = gb := ⟨_, rfl⟩
            rw [hgb] at mk
            have HB8 := Hid.of (show BAt w8 gb (List.replicate u 0) [] ∧ Keeps (fun _ => False) w7 w8 ∧ w7.heap.size ≤ gb from by
              rw [← hgb, ← hw8]
              exact ⟨BAt.of (alloc_new _ _), (Keeps.refl _ _).alloc _, Nat.le_refl _⟩)
            have hu0 : (0 : Int) ≤ (u : Int) := by omega
            have HG := Hid.of (show ¬ zfp m C z' gb from fun e => by have := H7.out.tw.lt e; have := HB8.out.2.2; omega)
            clear qu k7 hw8 hgb H6
            go_wp2_with fail
            go_loopw [76] (fun i wr => ∃ (q : Nat), q ≤ u ∧ i = .int .i64 q ∧ Hid (BAt wr gb (fillB 255 q u) [] ∧ Keeps (fun x => x = gb) w8 wr)) (fun i _ => u - (intOf i).toNat)
            case atStart => exact ⟨0, by omega, rfl, Hid.of ⟨by rw [fill0]; exact HB8.out.1, Keeps.refl _ _⟩⟩
            case round =>
              obtain ⟨q, hq, rfl, HQ⟩ := hrel
              by_cases hqu : q < u
              · have hqd : decide ((q : Int) < (u : Int)) = true := by simp; omega
                have hqd' : decide (q < u) = true := by simpa using hqu
                have q0 : (0 : Int) ≤ (q : Int) := by omega
                have q1 : (q : Int) < (u : Int) := by omega
                have hq8 : q < 8192 := by omega
                have fz := free_of HQ.out.1 q
                have fc := HQ.out.1.cell q (fill_get 255 hqu)
                obtain ⟨w9, hw9⟩ : ∃ w9, wr.setCell ⟨gb, q, none⟩ (.int .u8 255) = w9 := ⟨_, rfl⟩
                have HQ9 := Hid.of (show BAt w9 gb (fillB 255 (q + 1) u) [] ∧ Keeps (fun x => x = gb) w8 w9 from by
                  rw [← hw9]
                  exact ⟨by rw [← fill_set 255 hqu]; exact Ar.bat_set HQ.out.1 q 255 (by rw [fill_len _ (by omega)]; exact hqu), HQ.out.2.setCell _ _ (.inl rfl)⟩)
                clear HQ
                go_wp2
                go_roundw
                case rel => exact ⟨q + 1, by omega, by go_num, HQ9⟩
                case measure => simp [intOf]; omega
              · obtain rfl : q = u := by omega
                have hqd : decide ((q : Int) < (q : Int)) = false := by simp
                have hqd' : decide (q < q) = false := by simp
                have H9 := Hid.of (H7.out.old (HB8.out.2.1.trans' HQ.out.2 (fun x hx _ => by have hx : x = gb := hx; have := HB8.out.2.2; omega)))
                have HD := Hid.of (show BAt wr gb (List.replicate q 255) [] from by rw [← fill_all]; exact HQ.out.1)
                have HD2 := Hid.of (And.intro H9.out.tw.acell HD.out)
                clear HQ HB8 H7 HD
                obtain ⟨wS, rfl⟩ : ∃ x, x = wr := ⟨_, rfl⟩
                have qt := tw_table (H9.out.tw.old ((Keeps.refl _ _).drew)) hii
                unfold hptr at qt
                rw [HH6.out.2] at qt
                have qw := fun (wx : World) (kx : Keeps (fun _ => False) wS wx) => tw_write (H9.out.tw.old kx) hii (List.replicate q 255) HGV.out.1.hc HGV.out.1.hs HGV.out.1.hk HH6.out.1 (by rw [List.length_replicate]; exact HAD.out.2.symm) (by have := H9.out.T; omega)
                rw [HAD.out.1] at qw
                have cv : ∀ wx : World, Keeps (fun _ => False) wS wx → (convert 65 9 (.slice (some ⟨gb, 0, none⟩) q q)).run Tryz.prog wx = .ok (.string (bs (List.replicate q 255))) wx := fun wx kx =>
                  string_of_bytes wx _ q q _ List.length_replicate (HD2.out.2.keep kx (fun x => x)).rd0 (by simp)
                have c0 := H9.out.tw.acell
                have s0 := cv _ (Keeps.refl _ _).drew
                have d0 := keep_cell1 ((Keeps.refl (fun _ => False) wS).drew) c0
                have qw0 := qw _ (Keeps.refl _ _).drew
                unfold WrW at qw0
                clear qw cv
                go_wp2_with fail
                go_region_held3 (fun wx => wx.cell? ⟨m.pb, 0, none⟩ = some (.pointer (some ⟨m.p.a, 0, none⟩)) ∧ (convert 65 9 (.slice (some ⟨gb, 0, none⟩) q q)).run Tryz.prog wx = .ok (.string (bs (List.replicate q 255))) wx)
                  (first | exact ⟨d0, s0⟩ | exact ⟨e0, e1⟩)
                  (first
                    | (go_at_call 26; refine qt.mono ?_; clear qt; rintro e w9 ⟨rfl, rfl⟩)
                    | (go_at_call 34; refine qw0.mono ?_; clear qw0; rintro e wA ⟨rfl, z2, S2, tw2, nx2, hwr2, hT2⟩; have e0 := tw2.acell; have e1 := string_of_bytes wA (some ⟨gb, 0, none⟩) q q _ (List.length_replicate (n := q) (a := (255 : UInt8))) ((HD2.out.2.keep ((Keeps.refl (fun _ => False) wS).drew) (fun x => x)).keep nx2.k HG.out).rd0 (by simp)))
                have HA := Hid.of (H9.out.next hii tw2 nx2 (by rfl) (b' := 40 * (k + 1)) (by have := H9.out.T; omega))
                clear tw2 nx2 hwr2 hT2 e0 e1 s0 d0 c0 mk H9 HD2 HG HH6 HB5 HAD HGV HWW
                go_wp2
                go_roundw
                case rel => exact ⟨k + 1, z2, by omega, by go_num, HA⟩
                case measure => simp [intOf]; omega
        · have t1 : (kk == 1) = false := by simpa using h1
          have qb := tw_blocks H5.out.tw hii
          unfold BlkR hptr at qb
          have hbl : (blocksL (z.h (k % 2)).H).length ≤ 24 * 8192 := bl1_len _ 24 (Nat.le_refl _)
          obtain ⟨hb, hhb⟩ : ∃ hb, (z.h (k % 2)).X.hb = hb := ⟨_, rfl⟩
          rw [hhb] at qb hc5
          have hbrange := blocks_range (z.h (k % 2)).H
          obtain ⟨bl, hbe⟩ : ∃ bl, blocksL (z.h (k % 2)).H = bl := ⟨_, rfl⟩
          rw [hbe] at qb hbl hbrange
          clear hbe h1
          go_wp2_with fail
          refine qb.mono ?_
          rintro e w6 ⟨bv, rfl, ob6, k6⟩
          obtain ⟨BA, bcap, rfl, -, -, hbr⟩ := ob6.rd
          have H6 := Hid.of (H5.out.old k6)
          have o1' := cell_of (v := .int .i64 n) (k6.at HB5.out.1 (fun x => x)) 1 rfl
          obtain ⟨nb, hnb⟩ : ∃ nb, bl.length = nb := ⟨_, rfl⟩
          rw [hnb] at hbl
          have HBL := Hid.of (And.intro hbr hnb)
          clear qb ob6 k6 hbr
          rw [hnb]
          clear hnb
          by_cases hz : nb = 0
          · have tz : decide ((0 : Int) < (nb : Int)) = false := by simp; omega
            have tz' : decide (0 < nb) = false := by simp; omega
            have H7 := Hid.of (H6.out.up (show 40 * k ≤ 40 * (k + 1) by omega))
            clear hw5 hob y0 y1 y2 y3 o0 o1 o1' hc5 H5 H6 HB5 hbrange
            go_wp2_with fail
            go_roundw
            case rel => exact ⟨k + 1, z, by omega, by go_num, H7⟩
            case measure => simp [intOf]; omega
          · have tz : decide ((0 : Int) < (nb : Int)) = true := by simp; omega
            have tz' : decide (0 < nb) = true := by simp; omega
            obtain ⟨ix, hix, eix⟩ := idx_fit n (show 0 < nb by omega) hbl
            obtain ⟨zb, zo, zs, rfl, zc⟩ := rd_int HBL.out.1 ix (by rw [HBL.out.2]; exact hix)
            obtain ⟨av, hav⟩ : ∃ av, bl.getD ix 0 = av := ⟨_, rfl⟩
            rw [hav] at zc
            have har : 0 ≤ av ∧ av ≤ 10000000 := by
              rw [← hav]
              have hlt : ix < bl.length := by rw [HBL.out.2]; exact hix
              rw [List.getD_eq_getElem?_getD, List.getElem?_eq_getElem hlt, Option.getD_some]
              exact hbrange _ (List.getElem_mem hlt)
            have hj0 : (0 : Int) ≤ (ix : Int) := by omega
            have hj1 : (ix : Int) < (nb : Int) := by omega
            have qf := tw_free H6.out.tw hii av (by omega) (by have := H6.out.T; omega)
            unfold FreW hptr at qf
            rw [hhb] at qf
            have hWW := free_W (a := av) (H6.out.tw.hi _ hii)
            obtain ⟨r, hr⟩ : ∃ r, freeT (z.t (k % 2)) av = r := ⟨_, rfl⟩
            obtain ⟨t', ev⟩ := r
            rw [hr] at qf hWW
            dsimp only at qf hWW
            have HWW := Hid.of hWW
            clear hWW hr hav har hix hhb hbrange hw5 hob y0 y1 y2 y3 o0 o1 hc5 H5
            go_wp2_with fail
            refine qf.mono ?_
            rintro e w7 ⟨rfl, z', tw', nx, hT'⟩
            have H7 := Hid.of (H6.out.next hii tw' nx HWW.out (b' := 40 * (k + 1)) (by have := H6.out.T; omega))
            clear qf tw' nx hT' zc o1' H6 HB5 HWW HBL
            go_wp2
            go_roundw
            case rel => exact ⟨k + 1, z', by omega, by go_num, H7⟩
            case measure => simp [intOf]; omega
      · obtain rfl : k = L := by omega
        have hkd : decide ((k : Int) < (k : Int)) = false := by simp
        have HN0 : Hid (∀ h0 h1, (z.h 0).X.hb = h0 → (z.h 1).X.hb = h1 → NI2 w1 m P C r0 r1 W0 W1 h0 h1 0 z wr) := Hid.of (fun h0 h1 e0 e1 => ⟨HI.out.up (by have := HL.out.1; have := HK.out.2.2.2.2.1; omega), fun i hi => by omega, e0, e1⟩)
        have c2 := HI.out.tw.hcell (i := 0) (by omega)
        have c3 := HI.out.tw.hcell (i := 1) (by omega)
        obtain ⟨h0, hh0⟩ : ∃ h0, (z.h 0).X.hb = h0 := ⟨_, rfl⟩
        obtain ⟨h1, hh1⟩ : ∃ h1, (z.h 1).X.hb = h1 := ⟨_, rfl⟩
        rw [hh0] at c2
        rw [hh1] at c3
        have HN1 := Hid.of (HN0.out h0 h1 hh0 hh1)
        clear HI hlt hk HN0 hh0 hh1
        obtain ⟨wS, rfl⟩ : ∃ x, x = wr := ⟨_, rfl⟩
        go_wp2_with fail
        go_loopw [116] (fun i wr => ∃ (j : Nat) (z : TS), j ≤ 2 ∧ i = .int .i64 j ∧ Hid (NI2 w1 m P C r0 r1 W0 W1 h0 h1 j z wr)) (fun i _ => 2 - (intOf i).toNat)
        case atStart => exact ⟨0, z, by omega, rfl, HN1⟩
        case round =>
          clear HN1 c2 c3
          obtain ⟨j, z, hj, rfl, HJ⟩ := hrel
          by_cases hlt : j < 2
          · have hjd : decide ((j : Int) < 2) = true := by simp; omega
            have hjd' : decide (j < 2) = true := by simpa using hlt
            have hj0 : (0 : Int) ≤ (j : Int) := by omega
            have hj1 : (j : Int) < 2 := by omega
            obtain ⟨hb, hix, hhb⟩ := HJ.out.index hlt
            cases dr with
            | true =>
              have qd := tw_drop HJ.out.ci.tw hlt (by have := HJ.out.ci.T; omega)
              unfold DrpW hptr at qd
              rw [hhb] at qd
              clear hhb
              go_wp2_with fail
              refine qd.mono ?_
              rintro e w5 ⟨rfl, z', tw', nx, hT'⟩
              have HF := Hid.of (show NI2 w1 m P C r0 r1 W0 W1 h0 h1 (j + 1) z' w5 from by
                have k := drop_ok (HJ.out.ci.tw.hi j hlt)
                have hH : (z'.h j).H = (dropT (z.t j)).H := congrArg T3.H nx.t
                exact HJ.out.next hlt (HJ.out.ci.next hlt tw' nx k.e.2 (by have := HJ.out.ci.T; omega)) nx.o nx.hb (by rw [hH]; exact k.e.1))
              clear qd tw' nx hT' hix HJ
              go_wp2
              go_roundw
              case rel => exact ⟨j + 1, z', by omega, by go_num, HF⟩
              case measure => simp [intOf]; omega
            | false =>
              have qb := tw_blocks HJ.out.ci.tw hlt
              unfold BlkR hptr at qb
              have hbl : (blocksL (z.h j).H).length ≤ 24 * 8192 := bl1_len _ 24 (Nat.le_refl _)
              have hbrange := blocks_range (z.h j).H
              have hnd := blocks_nodup (z.h j).H
              rw [hhb] at qb
              obtain ⟨bl, hbe⟩ : ∃ bl, blocksL (z.h j).H = bl := ⟨_, rfl⟩
              rw [hbe] at qb hbl hbrange hnd
              have HBE := Hid.of (And.intro hbe hhb)
              clear hbe hhb
              go_wp2_with fail
              refine qb.mono ?_
              rintro e w5 ⟨bv, rfl, ob6, k6⟩
              obtain ⟨BA, bcap, rfl, -, hbA, hbr⟩ := ob6.rd
              obtain ⟨nb, hnb⟩ : ∃ nb, bl.length = nb := ⟨_, rfl⟩
              rw [hnb] at hbl
              have HF0 : Hid (FI2 w1 m P C r0 r1 W0 W1 j z w5 bl 0 z w5) := Hid.of ⟨(HJ.out.ci.old k6).up (by omega), fun a => by rw [HBE.out.1]; exact Iff.rfl, rfl, rfl, Sq.refl m C z (Keeps.refl _ _)⟩
              have HBL := Hid.of (And.intro hbr (And.intro hnb (And.intro hnd (And.intro hbrange (show ∀ ad, BA = some ad → ¬ zfp m C z ad.block from fun ad ha hx => by
                have h1 := (hbA ad ha).1
                have h2 := HJ.out.ci.tw.lt hx
                omega)))))
              clear qb ob6 k6 hbr hbA hnd hbrange hix
              rw [hnb]
              clear hnb
              go_wp2_with fail
              go_loopw [125] (fun i wr => ∃ (q : Nat) (z' : TS), q ≤ nb ∧ i = .int .i64 q ∧ Hid (FI2 w1 m P C r0 r1 W0 W1 j z w5 bl q z' wr)) (fun i _ => nb - (intOf i).toNat)
              case atStart => exact ⟨0, z, by omega, rfl, HF0⟩
              case round =>
                clear HF0
                obtain ⟨q, z', hq, rfl, HQ⟩ := hrel
                by_cases hql : q < nb
                · have hqd : decide ((q : Int) < (nb : Int)) = true := by simp; omega
                  have hqd' : decide (q < nb) = true := by simpa using hql
                  have hq0 : (0 : Int) ≤ (q : Int) := by omega
                  have hq1 : (q : Int) < (nb : Int) := by omega
                  obtain ⟨zb, zo, zs, rfl, zc⟩ := rd_int (HQ.out.sq.rd HBL.out.1 HBL.out.2.2.2.2) q (by rw [HBL.out.2.1]; exact hql)
                  have hfn := free_next (t := z'.t j) (HQ.out.ci.tw.hi j hlt) (show q < bl.length by rw [HBL.out.2.1]; exact hql) HBL.out.2.2.1 HQ.out.mem
                  have har : 0 ≤ bl.getD q 0 ∧ bl.getD q 0 ≤ 10000000 := by
                    have hl2 : q < bl.length := by rw [HBL.out.2.1]; exact hql
                    rw [List.getD_eq_getElem?_getD, List.getElem?_eq_getElem hl2, Option.getD_some]
                    exact HBL.out.2.2.2.1 _ (List.getElem_mem hl2)
                  have qf := tw_free HQ.out.ci.tw hlt (bl.getD q 0) (by omega) (by have := HQ.out.ci.T; omega)
                  have hhq : (z'.h j).X.hb = hb := by rw [HQ.out.hb]; exact HBE.out.2
                  unfold FreW hptr at qf
                  rw [hhq, hfn.1] at qf
                  have HQL := Hid.of hql
                  obtain ⟨av, hav⟩ : ∃ av, bl.getD q 0 = av := ⟨_, rfl⟩
                  rw [hav] at qf zc
                  have HAV := Hid.of hav
                  clear hfn har hhq hql hav
                  go_wp2_with fail
                  refine qf.mono ?_
                  rintro e w6 ⟨rfl, z3, tw3, nx3, hT3⟩
                  have HF := Hid.of (HQ.out.next hlt (by rw [HBL.out.2.1]; exact HQL.out) HBL.out.2.2.1 tw3 (by rw [HAV.out]; exact nx3) hT3)
                  have hq2 := HQL.out
                  clear qf tw3 nx3 hT3 zc HQ
                  go_wp2
                  go_roundw
                  case rel => exact ⟨q + 1, z3, by omega, by go_num, HF⟩
                  case measure => simp [intOf]; omega
                · obtain rfl : q = nb := by omega
                  have hqd : decide ((q : Int) < (q : Int)) = false := by simp
                  have hqd' : decide (q < q) = false := by simp
                  have HF := Hid.of (show NI2 w1 m P C r0 r1 W0 W1 h0 h1 (j + 1) z' wr from by
                    have he : (z'.h j).H.E = [] := no_blocks (t := z'.t j) (HQ.out.ci.tw.hi j hlt) (fun a ha => by
                      have := (HQ.out.mem a).1 ha
                      rw [List.drop_eq_nil_of_le (by rw [HBL.out.2.1]; exact Nat.le_refl _)] at this
                      simp at this)
                    exact HJ.out.next hlt (HQ.out.ci.up (by omega)) HQ.out.o HQ.out.hb he)
                  clear HQ HBL HBE hlt
                  go_wp2
                  go_roundw
                  case rel => exact ⟨j + 1, z', by omega, by go_num, HF⟩
                  case measure => simp [intOf]; omega
          · obtain rfl : j = 2 := by omega
            have hjd : decide ((2 : Int) < 2) = false := by simp
            obtain ⟨hSB, hnf⟩ := tw_free_all HJ.out.ci.tw (HJ.out.e 0 (by omega) (by omega)) (HJ.out.e 1 (by omega) (by omega))
            obtain ⟨sz, hsz⟩ : ∃ sz, P * 512 = sz := ⟨_, rfl⟩
            rw [hsz] at hSB
            have hsz2 : sz ≤ 300000 := by have := HL.out.2.1; omega
            have HSZ := Hid.of (And.intro hSB (And.intro hnf hsz2))
            have c0 := HJ.out.ci.tw.acell
            have d0 := keep_cell1 ((Keeps.refl (fun _ => False) wr).drew) c0
            have TWd := HJ.out.ci.tw.old ((Keeps.refl (fun _ => False) wr).drew)
            have qs := Ar.size_any wr.drew m.p z.v z.S (TWd.j 0 (by omega)).ar
            have qr := tw_aread TWd 0 sz (by rw [hSB, List.length_replicate]; omega) (by have := HJ.out.ci.T; omega)
            unfold ArW at qr
            have hl0 : z.S.B.length = sz := by rw [hSB, List.length_replicate]
            have hb0 : (z.S.B.drop 0).take sz = List.replicate sz 0 := by rw [List.drop_zero, hSB, List.take_of_length_le (by rw [List.length_replicate]; exact Nat.le_refl _)]
            rw [hl0] at qs
            rw [hb0] at qr
            have HJ2 := Hid.of HJ.out
            clear hSB hnf hsz hsz2 TWd hl0 hb0 HJ hlt hj
            obtain ⟨wT, rfl⟩ : ∃ x, x = wr := ⟨_, rfl⟩
            go_wp2_with fail
            go_region_held3 (fun wx => wx.cell? ⟨m.pb, 0, none⟩ = some (.pointer (some ⟨m.p.a, 0, none⟩)))
              (first | exact d0 | exact e0)
              (first
                | (go_at_call 37; refine qs.mono ?_; clear qs; rintro e w5 ⟨rfl, rfl⟩)
                | (go_at_call 36; refine qr.mono ?_; clear qr; rintro e w6 ⟨rfl, z', tw', nx⟩; have e0 := tw'.acell))
            have HE : Hid ((z'.h 0).H.E = [] ∧ (z'.h 1).H.E = [] ∧ (∀ W : List Int, (∀ c : Nat, c < C → (c : Int) ∈ W) → Co.nf z'.M W = P) ∧ z'.S.B.length = sz ∧ (z'.h 0).X.hb = h0 ∧ (z'.h 1).X.hb = h1) := Hid.of (by
              have e1 : (z'.h 0).H = (z.h 0).H := congrArg T3.H nx.t
              have e2 : z'.h 1 = z.h 1 := nx.o
              have e3 : z'.M = z.M := congrArg T3.M nx.t
              have e4 : z'.S.B = z.S.B := congrArg (fun t => t.S.B) nx.t
              exact ⟨by rw [e1]; exact HJ2.out.e 0 (by omega) (by omega), by rw [e2]; exact HJ2.out.e 1 (by omega) (by omega), fun W hW => by rw [e3]; exact HSZ.out.2.1 W hW, by rw [e4, HSZ.out.1, List.length_replicate], by rw [nx.hb]; exact HJ2.out.h0, by rw [e2]; exact HJ2.out.h1⟩)
            have HT6 := Hid.of tw'
            have hC6 : C ≤ 32 := by have h := HK.out.2.2.2.2.2.2.2.2; unfold Co.Cfg at h; omega
            have b6 := tw'.K.at HK.out.2.2.1 (fun x => x)
            have x0 := cell_of (v := .int .i64 P) b6 0 rfl
            have x1 := cell_of (v := .int .i64 C) b6 1 rfl
            clear tw' nx e0 d0 c0 HJ2 b6
            go_wp2_with fail
            go_loopw [24, 151] (fun v i wr => ∃ (q : Nat), q ≤ C ∧ i = .int .i64 q ∧ Hid (OutR 3 1 w6.heap.size wr v q (ints (rng q)) ∧ Keeps (fun _ => False) w6 wr)) (fun _ i _ => C - (intOf i).toNat)
            case atStart => exact ⟨0, by omega, rfl, Hid.of ⟨OutR.nil _ _ _ _, Keeps.refl _ _⟩⟩
            case round =>
              obtain ⟨q, hq, rfl, HO⟩ := hrel
              obtain ⟨A3, cap3, rfl, -, -, hrO⟩ := HO.out.1.rd
              by_cases hql : q < C
              · have hqd : decide ((q : Int) < (C : Int)) = true := by simp; omega
                have hqd' : decide (q < C) = true := by simpa using hql
                have o4 := HO.out.1.1
                clear hrO
                go_wp2_with (at_builtin; refine wpList_app1 slInts wr rfl _ _ rfl (.slice A3 q cap3) q (ints (rng q)) rfl o4 [.int .i64 (q : Int)] rfl rfl (by simp [Value.oneCell']) (by unfold maxLen; omega) (by omega) ?_; intro v5 w5 o5 k5 at5; have HF : Hid (OutR 3 1 w6.heap.size w5 v5 (q + 1) (ints (rng q) ++ [.int .i64 (q : Int)]) ∧ Keeps (fun _ => False) w6 w5) := Hid.of ⟨HO.out.1.app o5 at5 HO.out.2.size, HO.out.1.keeps HO.out.2 k5⟩; clear o5 k5 at5)
                go_roundw
                case rel => exact ⟨q + 1, by omega, by go_num, Hid.of ⟨by rw [rng_succ]; exact HF.out.1, HF.out.2⟩⟩
                case measure => simp [intOf]; omega
              · obtain rfl : q = C := by omega
                have hqd : decide ((q : Int) < (q : Int)) = false := by simp
                have hqd' : decide (q < q) = false := by simp
                have HO2 := Hid.of (And.intro HO.out.2 hrO)
                have TWr := HT6.out.old HO.out.2
                have TWd := TWr.old ((Keeps.refl (fun _ => False) wr).drew)
                have qs := Ar.size_any wr.drew m.p z'.v z'.S (TWd.j 0 (by omega)).ar
                rw [HE.out.2.2.2.1] at qs
                have mk := make_bytes wr.drew sz (by have := HSZ.out.2.2; omega)
                obtain ⟨w8, hw8⟩ : ∃ w8, wr.drew.alloc (.cells (u8s (List.replicate sz 0)).toArray 5) = w8 := ⟨_, rfl⟩
                rw [hw8] at mk
                have k8 : Keeps (fun _ => False) wr w8 := by rw [← hw8]; exact ((Keeps.refl (fun _ => False) wr).drew).alloc _
                have cv : (convert 65 9 (.slice (some ⟨wr.heap.size, 0, none⟩) sz sz)).run Tryz.prog w8 = .ok (.string (bs (List.replicate sz 0))) w8 := string_of_bytes w8 (some ⟨wr.drew.heap.size, 0, none⟩) sz sz (List.replicate sz 0) List.length_replicate (by rw [← hw8]; exact rd_new _ _ _) (by simp)
                have TW8 := TWr.old k8
                have qf := Co.free_any w8 m.cp z'.M A3 cap3 (rng q) q (TW8.j 0 (by omega)).co (rng_len q) (hrO.old k8) (by omega)
                rw [HE.out.2.2.1 (rng q) (fun c hc => rng_mem hc)] at qf
                have HTW8 := Hid.of TW8
                have qp0 := fun (wx : World) (kx : Keeps (fun _ => False) w8 wx) => tw_pages (HTW8.out.old kx) (i := 0) (by omega)
                have qp1 := fun (wx : World) (kx : Keeps (fun _ => False) w8 wx) => tw_pages (HTW8.out.old kx) (i := 1) (by omega)
                unfold hptr at qp0 qp1
                rw [HE.out.2.2.2.2.1, HE.out.1] at qp0
                rw [HE.out.2.2.2.2.2, HE.out.2.1] at qp1
                have hS : ∀ wx, Keeps (fun _ => False) w6 wx → Hid (wx.cell? ⟨m.pb, 0, none⟩ = some (.pointer (some ⟨m.p.a, 0, none⟩)) ∧ wx.cell? ⟨m.pb, 1, none⟩ = some (.pointer (some ⟨m.cp.m, 0, none⟩)) ∧ wx.cell? ⟨m.pb, 2, none⟩ = some (.pointer (some ⟨h0, 0, none⟩)) ∧ wx.cell? ⟨m.pb, 3, none⟩ = some (.pointer (some ⟨h1, 0, none⟩)) ∧ wx.cell? ⟨cb, 0, none⟩ = some (.int .i64 P)) := fun wx kx => by
                  have tx := HT6.out.old kx
                  have a2 := tx.hcell (i := 0) (by omega)
                  have a3 := tx.hcell (i := 1) (by omega)
                  rw [HE.out.2.2.2.2.1] at a2
                  rw [HE.out.2.2.2.2.2] at a3
                  exact Hid.of ⟨tx.acell, tx.mcell, a2, a3, keep_cell1 kx x0⟩
                clear hrO TWr TWd TW8 HO x1
                have d8 := (hS _ (HO2.out.1.trans (Keeps.refl _ _).drew)).out
                have d9 := (hS _ (HO2.out.1.trans k8)).out
                go_wp2_with fail
                refine wp_region_held_drew (S := (fun wx => wx.cell? ⟨m.pb, 0, none⟩ = some (.pointer (some ⟨m.p.a, 0, none⟩)) ∧ wx.cell? ⟨m.pb, 1, none⟩ = some (.pointer (some ⟨m.cp.m, 0, none⟩)) ∧ wx.cell? ⟨m.pb, 2, none⟩ = some (.pointer (some ⟨h0, 0, none⟩)) ∧ wx.cell? ⟨m.pb, 3, none⟩ = some (.pointer (some ⟨h1, 0, none⟩)) ∧ wx.cell? ⟨cb, 0, none⟩ = some (.int .i64 P))) (by kernel_rfl) (by exact d8) (fun hHeld => ?_)
                refine wpAnyH_take (i := 0) (v := ?_) rfl (by kernel_rfl) (by kernel_rfl) (by kernel_rfl) (fun _ _ _ h => h) (Or.inl ⟨by kernel_rfl, ?_⟩) (by assumption) ?_
                rotate_left
                · (intro w hSw; (try dsimp only at hSw); go_simp); (try with_reducible rfl)
                (try simp only [Act.put, List.getElem_toArray, List.getElem_cons_zero, List.getElem_cons_succ, List.setIfInBounds_toArray, List.set_cons_zero, List.set_cons_succ])
                refine wpAnyH_take (i := 1) (v := ?_) rfl (by kernel_rfl) (by kernel_rfl) (by kernel_rfl) (fun _ _ _ h => h) (Or.inl ⟨by kernel_rfl, ?_⟩) (by assumption) ?_
                rotate_left
                · (intro w hSw; (try dsimp only at hSw); go_simp); (try with_reducible rfl)
                (try simp only [Act.put, List.getElem_toArray, List.getElem_cons_zero, List.getElem_cons_succ, List.setIfInBounds_toArray, List.set_cons_zero, List.set_cons_succ])
                refine wpAnyH_take (i := 2) (v := ?_) rfl (by kernel_rfl) (by kernel_rfl) (by kernel_rfl) (fun _ _ _ h => h) (Or.inl ⟨by kernel_rfl, ?_⟩) (by assumption) ?_
                rotate_left
                · (intro w hSw; (try dsimp only at hSw); go_simp); (try with_reducible rfl)
                (try simp only [Act.put, List.getElem_toArray, List.getElem_cons_zero, List.getElem_cons_succ, List.setIfInBounds_toArray, List.set_cons_zero, List.set_cons_succ])
                refine wpAnyH_take (i := 3) (v := ?_) rfl (by kernel_rfl) (by kernel_rfl) (by kernel_rfl) (fun _ _ _ h => h) (Or.inl ⟨by kernel_rfl, ?_⟩) (by assumption) ?_
                rotate_left
                · (intro w hSw; (try dsimp only at hSw); go_simp); (try with_reducible rfl)
                (try simp only [Act.put, List.getElem_toArray, List.getElem_cons_zero, List.getElem_cons_succ, List.setIfInBounds_toArray, List.set_cons_zero, List.set_cons_succ])
                refine wpAnyH_take (i := 4) (v := ?_) rfl (by kernel_rfl) (by kernel_rfl) (by kernel_rfl) (fun _ _ _ h => h) (Or.inl ⟨by kernel_rfl, ?_⟩) (by assumption) ?_
                rotate_left
                · (intro w hSw; (try dsimp only at hSw); go_simp); (try with_reducible rfl)
                (try simp only [Act.put, List.getElem_toArray, List.getElem_cons_zero, List.getElem_cons_succ, List.setIfInBounds_toArray, List.set_cons_zero, List.set_cons_succ])
                refine wpAnyH_ready (rs := [5]) (by kernel_rfl) (by simp) ?_
                refine AllReadyH.cons rfl (fun K hK => ?_) AllReadyH.nil
                go_simp
                go_at_call 37; refine qs.mono ?_; clear qs; rintro e w5 ⟨rfl, rfl⟩
                first | (refine hK.out _ _ (by exact d8) (fun hHeld => ?_)) | (go_wp2_with fail; refine hK.out _ _ (by exact d8) (fun hHeld => ?_))
                clear hK K
                (try simp only [Act.put, List.getElem_toArray, List.getElem_cons_zero, List.getElem_cons_succ, List.setIfInBounds_toArray, List.set_cons_zero, List.set_cons_succ])
                refine wpAnyH_ready (rs := [6]) (by kernel_rfl) (by simp) ?_
                refine AllReadyH.cons rfl (fun K hK => ?_) AllReadyH.nil
                go_simp
                skip
                first | (refine hK.out _ _ (by exact d9) (fun hHeld => ?_)) | (go_wp2_with fail; refine hK.out _ _ (by exact d9) (fun hHeld => ?_))
                clear hK K
                (try simp only [Act.put, List.getElem_toArray, List.getElem_cons_zero, List.getElem_cons_succ, List.setIfInBounds_toArray, List.set_cons_zero, List.set_cons_succ])
                refine wpAnyH_ready (rs := [7]) (by kernel_rfl) (by simp) ?_
                refine AllReadyH.cons rfl (fun K hK => ?_) AllReadyH.nil
                go_simp
                skip
                first | (refine hK.out _ _ (by exact d9) (fun hHeld => ?_)) | (go_wp2_with fail; refine hK.out _ _ (by exact d9) (fun hHeld => ?_))
                clear hK K
                (try simp only [Act.put, List.getElem_toArray, List.getElem_cons_zero, List.getElem_cons_succ, List.setIfInBounds_toArray, List.set_cons_zero, List.set_cons_succ])
                refine wpAnyH_take (i := 8) (v := ?_) rfl (by kernel_rfl) (by kernel_rfl) (by kernel_rfl) (fun _ _ _ h => h) (Or.inl ⟨by kernel_rfl, ?_⟩) (by assumption) ?_
                rotate_left
                · (intro w hSw; (try dsimp only at hSw); go_simp); (try with_reducible rfl)
                (try simp only [Act.put, List.getElem_toArray, List.getElem_cons_zero, List.getElem_cons_succ, List.setIfInBounds_toArray, List.set_cons_zero, List.set_cons_succ])
                refine wpAnyH_take (i := 9) (v := ?_) rfl (by kernel_rfl) (by kernel_rfl) (by kernel_rfl) (fun _ _ _ h => h) (Or.inl ⟨by kernel_rfl, ?_⟩) (by assumption) ?_
                rotate_left
                · (intro w hSw; (try dsimp only at hSw); go_simp); (try with_reducible rfl)
                (try simp only [Act.put, List.getElem_toArray, List.getElem_cons_zero, List.getElem_cons_succ, List.setIfInBounds_toArray, List.set_cons_zero, List.set_cons_succ])
                refine wpAnyH_take (i := 10) (v := ?_) rfl (by kernel_rfl) (by kernel_rfl) (by kernel_rfl) (fun _ _ _ h => h) (Or.inl ⟨by kernel_rfl, ?_⟩) (by assumption) ?_
                rotate_left
                · (intro w hSw; (try dsimp only at hSw); go_simp); (try with_reducible rfl)
                (try simp only [Act.put, List.getElem_toArray, List.getElem_cons_zero, List.getElem_cons_succ, List.setIfInBounds_toArray, List.set_cons_zero, List.set_cons_succ])
                refine wpAnyH_take (i := 11) (v := ?_) rfl (by kernel_rfl) (by kernel_rfl) (by kernel_rfl) (fun _ _ _ h => h) (Or.inl ⟨by kernel_rfl, ?_⟩) (by assumption) ?_
                rotate_left
                · (intro w hSw; (try dsimp only at hSw); go_simp); (try with_reducible rfl)
                (try simp only [Act.put, List.getElem_toArray, List.getElem_cons_zero, List.getElem_cons_succ, List.setIfInBounds_toArray, List.set_cons_zero, List.set_cons_succ])
                refine wpAnyH_take (i := 12) (v := ?_) rfl (by kernel_rfl) (by kernel_rfl) (by kernel_rfl) (fun _ _ _ h => h) (Or.inl ⟨by kernel_rfl, ?_⟩) (by assumption) ?_
                rotate_left
                · (intro w hSw; (try dsimp only at hSw); go_simp); (try with_reducible rfl)
                (try simp only [Act.put, List.getElem_toArray, List.getElem_cons_zero, List.getElem_cons_succ, List.setIfInBounds_toArray, List.set_cons_zero, List.set_cons_succ])
                refine wpAnyH_take (i := 13) (v := ?_) rfl (by kernel_rfl) (by kernel_rfl) (by kernel_rfl) (fun _ _ _ h => h) (Or.inl ⟨by kernel_rfl, ?_⟩) (by assumption) ?_
                rotate_left
                · (intro w hSw; (try dsimp only at hSw); go_simp); (try with_reducible rfl)
                (try simp only [Act.put, List.getElem_toArray, List.getElem_cons_zero, List.getElem_cons_succ, List.setIfInBounds_toArray, List.set_cons_zero, List.set_cons_succ])
                refine wpAnyH_take (i := 14) (v := ?_) rfl (by kernel_rfl) (by kernel_rfl) (by kernel_rfl) (fun _ _ _ h => h) (Or.inl ⟨by kernel_rfl, ?_⟩) (by assumption) ?_
                rotate_left
                · (intro w hSw; (try dsimp only at hSw); go_simp); (try with_reducible rfl)
                (try simp only [Act.put, List.getElem_toArray, List.getElem_cons_zero, List.getElem_cons_succ, List.setIfInBounds_toArray, List.set_cons_zero, List.set_cons_succ])
                refine wpAnyH_take (i := 16) (v := ?_) rfl (by kernel_rfl) (by kernel_rfl) (by kernel_rfl) (fun _ _ _ h => h) (Or.inl ⟨by kernel_rfl, ?_⟩) (by assumption) ?_
                rotate_left
                · (intro w hSw; (try dsimp only at hSw); go_simp); (try with_reducible rfl)
                (try simp only [Act.put, List.getElem_toArray, List.getElem_cons_zero, List.getElem_cons_succ, List.setIfInBounds_toArray, List.set_cons_zero, List.set_cons_succ])
                refine wpAnyH_take (i := 17) (v := ?_) rfl (by kernel_rfl) (by kernel_rfl) (by kernel_rfl) (fun _ _ _ h => h) (Or.inl ⟨by kernel_rfl, ?_⟩) (by assumption) ?_
                rotate_left
                · (intro w hSw; (try dsimp only at hSw); go_simp); (try with_reducible rfl)
                (try simp only [Act.put, List.getElem_toArray, List.getElem_cons_zero, List.getElem_cons_succ, List.setIfInBounds_toArray, List.set_cons_zero, List.set_cons_succ])
                refine wpAnyH_take (i := 18) (v := ?_) rfl (by kernel_rfl) (by kernel_rfl) (by kernel_rfl) (fun _ _ _ h => h) (Or.inl ⟨by kernel_rfl, ?_⟩) (by assumption) ?_
                rotate_left
                · (intro w hSw; (try dsimp only at hSw); go_simp); (try with_reducible rfl)
                (try simp only [Act.put, List.getElem_toArray, List.getElem_cons_zero, List.getElem_cons_succ, List.setIfInBounds_toArray, List.set_cons_zero, List.set_cons_succ])
                refine wpAnyH_ready (rs := [15]) (by kernel_rfl) (by simp) ?_
                refine AllReadyH.cons rfl (fun K hK => ?_) AllReadyH.nil
                go_simp
                go_at_call 38; refine qf.mono ?_; clear qf; rintro e wA ⟨rfl, kA⟩; have dA := (hS _ ((HO2.out.1.trans k8).trans kA)).out; have qp0' := qp0 wA kA; have qp1' := qp1 wA kA
                first | (refine hK.out _ _ (by exact dA) (fun hHeld => ?_)) | (go_wp2_with fail; refine hK.out _ _ (by exact dA) (fun hHeld => ?_))
                clear hK K
                (try simp only [Act.put, List.getElem_toArray, List.getElem_cons_zero, List.getElem_cons_succ, List.setIfInBounds_toArray, List.set_cons_zero, List.set_cons_succ])
                refine wpAnyH_take (i := 19) (v := ?_) rfl (by kernel_rfl) (by kernel_rfl) (by kernel_rfl) (fun _ _ _ h => h) (Or.inl ⟨by kernel_rfl, ?_⟩) (by assumption) ?_
                rotate_left
                · (intro w hSw; (try dsimp only at hSw); go_simp); (try with_reducible rfl)
                (try simp only [Act.put, List.getElem_toArray, List.getElem_cons_zero, List.getElem_cons_succ, List.setIfInBounds_toArray, List.set_cons_zero, List.set_cons_succ])
                refine wpAnyH_take (i := 20) (v := ?_) rfl (by kernel_rfl) (by kernel_rfl) (by kernel_rfl) (fun _ _ _ h => h) (Or.inl ⟨by kernel_rfl, ?_⟩) (by assumption) ?_
                rotate_left
                · (intro w hSw; (try dsimp only at hSw); go_simp); (try with_reducible rfl)
                (try simp only [Act.put, List.getElem_toArray, List.getElem_cons_zero, List.getElem_cons_succ, List.setIfInBounds_toArray, List.set_cons_zero, List.set_cons_succ])
                refine wpAnyH_take (i := 21) (v := ?_) rfl (by kernel_rfl) (by kernel_rfl) (by kernel_rfl) (fun _ _ _ h => h) (Or.inl ⟨by kernel_rfl, ?_⟩) (by assumption) ?_
                rotate_left
                · (intro w hSw; (try dsimp only at hSw); go_simp); (try with_reducible rfl)
                (try simp only [Act.put, List.getElem_toArray, List.getElem_cons_zero, List.getElem_cons_succ, List.setIfInBounds_toArray, List.set_cons_zero, List.set_cons_succ])
                refine wpAnyH_take (i := 22) (v := ?_) rfl (by kernel_rfl) (by kernel_rfl) (by kernel_rfl) (fun _ _ _ h => h) (Or.inl ⟨by kernel_rfl, ?_⟩) (by assumption) ?_
                rotate_left
                · (intro w hSw; (try dsimp only at hSw); go_simp); (try with_reducible rfl)
                (try simp only [Act.put, List.getElem_toArray, List.getElem_cons_zero, List.getElem_cons_succ, List.setIfInBounds_toArray, List.set_cons_zero, List.set_cons_succ])
                refine wpAnyH_take (i := 23) (v := ?_) rfl (by kernel_rfl) (by kernel_rfl) (by kernel_rfl) (fun _ _ _ h => h) (Or.inl ⟨by kernel_rfl, ?_⟩) (by assumption) ?_
                rotate_left
                · (intro w hSw; (try dsimp only at hSw); go_simp); (try with_reducible rfl)
                (try simp only [Act.put, List.getElem_toArray, List.getElem_cons_zero, List.getElem_cons_succ, List.setIfInBounds_toArray, List.set_cons_zero, List.set_cons_succ])
                refine wpAnyH_take (i := 24) (v := ?_) rfl (by kernel_rfl) (by kernel_rfl) (by kernel_rfl) (fun _ _ _ h => h) (Or.inl ⟨by kernel_rfl, ?_⟩) (by assumption) ?_
                rotate_left
                · (intro w hSw; (try dsimp only at hSw); go_simp); (try with_reducible rfl)
                (try simp only [Act.put, List.getElem_toArray, List.getElem_cons_zero, List.getElem_cons_succ, List.setIfInBounds_toArray, List.set_cons_zero, List.set_cons_succ])
                refine wpAnyH_take (i := 25) (v := ?_) rfl (by kernel_rfl) (by kernel_rfl) (by kernel_rfl) (fun _ _ _ h => h) (Or.inl ⟨by kernel_rfl, ?_⟩) (by assumption) ?_
                rotate_left
                · (intro w hSw; (try dsimp only at hSw); go_simp); (try with_reducible rfl)
                (try simp only [Act.put, List.getElem_toArray, List.getElem_cons_zero, List.getElem_cons_succ, List.setIfInBounds_toArray, List.set_cons_zero, List.set_cons_succ])
                refine wpAnyH_take (i := 26) (v := ?_) rfl (by kernel_rfl) (by kernel_rfl) (by kernel_rfl) (fun _ _ _ h => h) (Or.inl ⟨by kernel_rfl, ?_⟩) (by assumption) ?_
                rotate_left
                · (intro w hSw; (try dsimp only at hSw); go_simp); (try with_reducible rfl)
                (try simp only [Act.put, List.getElem_toArray, List.getElem_cons_zero, List.getElem_cons_succ, List.setIfInBounds_toArray, List.set_cons_zero, List.set_cons_succ])
                refine wpAnyH_ready (rs := [27]) (by kernel_rfl) (by simp) ?_
                refine AllReadyH.cons rfl (fun K hK => ?_) AllReadyH.nil
                go_simp
                go_at_call 24; refine qp0'.mono ?_; clear qp0'; rintro e wB ⟨rfl, rfl⟩
                first | (refine hK.out _ _ (by exact dA) (fun hHeld => ?_)) | (go_wp2_with fail; refine hK.out _ _ (by exact dA) (fun hHeld => ?_))
                clear hK K
                (try simp only [Act.put, List.getElem_toArray, List.getElem_cons_zero, List.getElem_cons_succ, List.setIfInBounds_toArray, List.set_cons_zero, List.set_cons_succ])
                refine wpAnyH_take (i := 28) (v := ?_) rfl (by kernel_rfl) (by kernel_rfl) (by kernel_rfl) (fun _ _ _ h => h) (Or.inl ⟨by kernel_rfl, ?_⟩) (by assumption) ?_
                rotate_left
                · (intro w hSw; (try dsimp only at hSw); go_simp); (try with_reducible rfl)
                (try simp only [Act.put, List.getElem_toArray, List.getElem_cons_zero, List.getElem_cons_succ, List.setIfInBounds_toArray, List.set_cons_zero, List.set_cons_succ])
                refine wpAnyH_take (i := 29) (v := ?_) rfl (by kernel_rfl) (by kernel_rfl) (by kernel_rfl) (fun _ _ _ h => h) (Or.inl ⟨by kernel_rfl, ?_⟩) (by assumption) ?_
                rotate_left
                · (intro w hSw; (try dsimp only at hSw); go_simp); (try with_reducible rfl)
                (try simp only [Act.put, List.getElem_toArray, List.getElem_cons_zero, List.getElem_cons_succ, List.setIfInBounds_toArray, List.set_cons_zero, List.set_cons_succ])
                refine wpAnyH_take (i := 30) (v := ?_) rfl (by kernel_rfl) (by kernel_rfl) (by kernel_rfl) (fun _ _ _ h => h) (Or.inl ⟨by kernel_rfl, ?_⟩) (by assumption) ?_
                rotate_left
                · (intro w hSw; (try dsimp only at hSw); go_simp); (try with_reducible rfl)
                (try simp only [Act.put, List.getElem_toArray, List.getElem_cons_zero, List.getElem_cons_succ, List.setIfInBounds_toArray, List.set_cons_zero, List.set_cons_succ])
                refine wpAnyH_take (i := 31) (v := ?_) rfl (by kernel_rfl) (by kernel_rfl) (by kernel_rfl) (fun _ _ _ h => h) (Or.inl ⟨by kernel_rfl, ?_⟩) (by assumption) ?_
                rotate_left
                · (intro w hSw; (try dsimp only at hSw); go_simp); (try with_reducible rfl)
                (try simp only [Act.put, List.getElem_toArray, List.getElem_cons_zero, List.getElem_cons_succ, List.setIfInBounds_toArray, List.set_cons_zero, List.set_cons_succ])
                refine wpAnyH_take (i := 32) (v := ?_) rfl (by kernel_rfl) (by kernel_rfl) (by kernel_rfl) (fun _ _ _ h => h) (Or.inl ⟨by kernel_rfl, ?_⟩) (by assumption) ?_
                rotate_left
                · (intro w hSw; (try dsimp only at hSw); go_simp); (try with_reducible rfl)
                (try simp only [Act.put, List.getElem_toArray, List.getElem_cons_zero, List.getElem_cons_succ, List.setIfInBounds_toArray, List.set_cons_zero, List.set_cons_succ])
                refine wpAnyH_take (i := 33) (v := ?_) rfl (by kernel_rfl) (by kernel_rfl) (by kernel_rfl) (fun _ _ _ h => h) (Or.inl ⟨by kernel_rfl, ?_⟩) (by assumption) ?_
                rotate_left
                · (intro w hSw; (try dsimp only at hSw); go_simp); (try with_reducible rfl)
                (try simp only [Act.put, List.getElem_toArray, List.getElem_cons_zero, List.getElem_cons_succ, List.setIfInBounds_toArray, List.set_cons_zero, List.set_cons_succ])
                refine wpAnyH_take (i := 34) (v := ?_) rfl (by kernel_rfl) (by kernel_rfl) (by kernel_rfl) (fun _ _ _ h => h) (Or.inl ⟨by kernel_rfl, ?_⟩) (by assumption) ?_
                rotate_left
                · (intro w hSw; (try dsimp only at hSw); go_simp); (try with_reducible rfl)
                (try simp only [Act.put, List.getElem_toArray, List.getElem_cons_zero, List.getElem_cons_succ, List.setIfInBounds_toArray, List.set_cons_zero, List.set_cons_succ])
                refine wpAnyH_take (i := 35) (v := ?_) rfl (by kernel_rfl) (by kernel_rfl) (by kernel_rfl) (fun _ _ _ h => h) (Or.inl ⟨by kernel_rfl, ?_⟩) (by assumption) ?_
                rotate_left
                · (intro w hSw; (try dsimp only at hSw); go_simp); (try with_reducible rfl)
                (try simp only [Act.put, List.getElem_toArray, List.getElem_cons_zero, List.getElem_cons_succ, List.setIfInBounds_toArray, List.set_cons_zero, List.set_cons_succ])
                refine wpAnyH_ready (rs := [36]) (by kernel_rfl) (by simp) ?_
                refine AllReadyH.cons rfl (fun K hK => ?_) AllReadyH.nil
                go_simp
                go_at_call 24; refine qp1'.mono ?_; clear qp1'; rintro e wC ⟨rfl, rfl⟩
                first | (refine hK.out _ _ (by exact dA) (fun hHeld => ?_)) | (go_wp2_with fail; refine hK.out _ _ (by exact dA) (fun hHeld => ?_))
                clear hK K
                (try simp only [Act.put, List.getElem_toArray, List.getElem_cons_zero, List.getElem_cons_succ, List.setIfInBounds_toArray, List.set_cons_zero, List.set_cons_succ])
                refine wpAnyH_take (i := 37) (v := ?_) rfl (by kernel_rfl) (by kernel_rfl) (by kernel_rfl) (fun _ _ _ h => h) (Or.inl ⟨by kernel_rfl, ?_⟩) (by assumption) ?_
                rotate_left
                · (intro w hSw; (try dsimp only at hSw); go_simp); (try with_reducible rfl)
                (try simp only [Act.put, List.getElem_toArray, List.getElem_cons_zero, List.getElem_cons_succ, List.setIfInBounds_toArray, List.set_cons_zero, List.set_cons_succ])
                refine wpAnyH_take (i := 38) (v := ?_) rfl (by kernel_rfl) (by kernel_rfl) (by kernel_rfl) (fun _ _ _ h => h) (Or.inl ⟨by kernel_rfl, ?_⟩) (by assumption) ?_
                rotate_left
                · (intro w hSw; (try dsimp only at hSw); go_simp); (try with_reducible rfl)
                (try simp only [Act.put, List.getElem_toArray, List.getElem_cons_zero, List.getElem_cons_succ, List.setIfInBounds_toArray, List.set_cons_zero, List.set_cons_succ])
                refine wpAnyH_take (i := 39) (v := ?_) rfl (by kernel_rfl) (by kernel_rfl) (by kernel_rfl) (fun _ _ _ h => h) (Or.inl ⟨by kernel_rfl, ?_⟩) (by assumption) ?_
                rotate_left
                · (intro w hSw; (try dsimp only at hSw); go_simp); (try with_reducible rfl)
                (try simp only [Act.put, List.getElem_toArray, List.getElem_cons_zero, List.getElem_cons_succ, List.setIfInBounds_toArray, List.set_cons_zero, List.set_cons_succ])
                refine wpAnyH_done (by kernel_rfl) ?_ _
                have HF := Hid.of ((((HK.out.1.trans HT6.out.K).trans HO2.out.1).trans k8).trans kA)
                clear hHeld dA kA d8 d9 hS cv mk HT6 HO2 HTW8 qp0 qp1
                go_wp2
                go_ret
                exact ⟨rfl, HF.out⟩
theorem clean_any (w : World) (P C : Int) (dr : Bool) (A0 A1 A : Option Addr) (n0 c0 n1 c1 cap : Nat) (W0 W1 : List Int) (xs : List HOp) (hT : Sh.Tab w) (hA0 : A0 = none → n0 = 0 ∧ c0 = 0) (hl0 : W0.length = n0) (hr0 : Rd w A0 (ints W0)) (hA1 : A1 = none → n1 = 0 ∧ c1 = 0) (hl1 : W1.length = n1) (hr1 : Rd w A1 (ints W1)) (hn0 : n0 ≤ 17592186044416) (hn1 : n1 ≤ 17592186044416)
    (hr : Rd w A (hops xs)) (hl : xs.length ≤ maxLen) (hok : ∀ x ∈ xs, x.Ok w) (hm : ∀ x ∈ xs, x.m ≤ 17592186044416) :
    Calls Tryz.prog 5 #[.agg #[.int .i64 P, .int .i64 C, .slice A0 n0 c0, .slice A1 n1 c1], .slice A xs.length cap, .bool dr] w (ClnR w) := by
  by_cases h : Co.Cfg P C
  · have h' := h
    unfold Co.Cfg at h'
    obtain ⟨P', rfl⟩ : ∃ k : Nat, P = k := ⟨P.toNat, by omega⟩
    obtain ⟨C', rfl⟩ : ∃ k : Nat, C = k := ⟨C.toNat, by omega⟩
    exact clean_good w P' C' dr A0 A1 A n0 c0 n1 c1 cap W0 W1 xs xs.length h hT hA0 hl0 hr0 hA1 hl1 hr1 hn0 hn1 rfl hr hl hok (Hid.of hm)
  · exact clean_bad w P C dr A0 A1 A n0 c0 n1 c1 xs.length cap hT h
end Hm
end Go.Proofs.YtnheibcjcgacpaaGreatDoor
