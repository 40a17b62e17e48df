/- The view package's walks: pieces, each. | The view package's walks: what is done with each piece; Read, Write, Zero, Copy. -/
import Derived.Test.YtnheibcjcgacpaaGreatDoorAren
import Derived.Test.YtnheibcjcgacpaaGreatDoorTabA
import Derived.Test.YtnheibcjcgacpaaGreatDoorPlc
import Derived.Test.YtnheibcjcgacpaaGreatDoorVs
set_option linter.unusedVariables false
set_option linter.unusedSimpArgs false
/-! The view package's walks: pieces, each. -/
namespace Go.Proofs.YtnheibcjcgacpaaGreatDoor
open Go.RowKit Go.ChangeMaps
namespace Vw
/-- Spans within the arena. -/
def Fit (N : Nat) (L : List Sp) : Prop := ∀ s ∈ L, 0 ≤ s.at' ∧ 0 ≤ s.n ∧ s.at' + s.n ≤ N
def PcsR (w : World) (L : List Sp) (e : Ending) (w' : World) : Prop := ∃ v, e = .returned (.tuple #[v, .int .i64 0]) ∧ Tab.Out w.heap.size w' v L ∧ Keeps (fun _ => False) w w'
set_option maxRecDepth 100000 in
set_option maxHeartbeats 1000000 in
theorem pieces_any (w : World) (p : Ar.Pl) (v : Value) (S : Ar.AS) (b m n : Nat) (E G : Tab.Prs) (a0 n0 : Int) (L : List Sp) (ar : Ar.AtV w p v S) (tb : Tab.At w b m n E G) (hE : ∀ k, Tab.fnd E k ≤ 1048576) (hp : Tab.pieces E a0 n0 = some L) (hf : Fit S.B.length L) (hL : L.length ≤ 1000000) :
    Calls Tryz.prog 105 #[.pointer (some ⟨p.a, 0, none⟩), .pointer (some ⟨b, 0, none⟩), .int .i64 a0, .int .i64 n0] w (PcsR w L) := by
  have q1 := Tab.pieces_any w b m n E G a0 n0 tb hE
  have ec : Tab.code (Tab.pieces E a0 n0) = 0 := by rw [hp]; rfl
  rw [ec, hp] at q1
  dsimp only [Option.getD_some] at q1
  have hl := ar.len
  obtain ⟨B, hB⟩ : ∃ B, S.B.length = B := ⟨_, rfl⟩
  rw [hB] at hl hf
  have HA := Hid.of (And.intro ar (And.intro hf (And.intro hB hL)))
  obtain ⟨K, hK⟩ : ∃ K, L.length = K := ⟨_, rfl⟩
  have HK := Hid.of hK
  rw [hK] at hL
  clear ar tb hE hp ec hf hB hK
  go_enter Tryz.func105, Tryz.ntmps105
  go_wp2_with fail
  refine q1.mono ?_
  rintro e w1 ⟨vs, rfl, o1, k1⟩
  obtain ⟨A, cap, rfl, -, hA, hr⟩ := o1.rd
  have H1 := Hid.of (And.intro o1 (And.intro k1 hr))
  clear q1 o1 k1 hA hr
  rw [HK.out]
  go_wp2_with fail
  go_loopw [29] (fun i wr => ∃ (k : Nat), k ≤ K ∧ i = .int .i64 k ∧ Keeps (fun _ => False) w1 wr) (fun i _ => K - (intOf i).toNat)
  case atStart => exact ⟨0, by omega, rfl, Keeps.refl _ _⟩
  case round =>
    obtain ⟨k, hk, rfl, kr⟩ := hrel
    by_cases hlt : k < K
    · have hkd : decide ((k : Int) < (K : Int)) = true := by simp; omega
      obtain ⟨b1, o1, s1, x, y, z, hg, rfl, hc1, hc2, hc3⟩ := sp_cells (H1.out.2.2.old kr) k (by rw [HK.out]; exact hlt)
      have hm : (⟨x, y, z⟩ : Sp) ∈ L := List.mem_of_getElem? hg
      obtain ⟨f1, f2, f3⟩ := HA.out.2.1 _ hm
      dsimp only at f1 f2 f3
      have hk6 : k < 1000000 := by omega
      have t1 : decide ((B : Int) < x) = false := by simp; omega
      have wxy : wrap64 ((B : Int) - x) = (B : Int) - x := Pc.w64 (by omega) (by omega)
      have wxy2 : IntKind.i64.wrap ((B : Int) - x) = (B : Int) - x := IntWalk.i64_in _ (by omega)
      have t2 : decide ((B : Int) - x < y) = false := by simp; omega
      obtain ⟨w2, hw2⟩ : ∃ w2, wr.alloc (.cells #[.int .i64 x, .int .i64 y, .bool z] 61) = w2 := ⟨_, rfl⟩
      have b2 : w2.heap[wr.heap.size]? = some (.cells #[.int .i64 x, .int .i64 y, .bool z] 61 (0, 0)) := by rw [← hw2]; exact alloc_new _ _
      have e0 := cell_of b2 0 rfl
      have e1 := cell_of b2 1 rfl
      have k2 : Keeps (fun _ => False) w1 w2 := by rw [← hw2]; exact kr.trans ((Keeps.refl _ _).alloc _)
      have qs := fun m => (Ar.size_any (w2.drewN m) p v S (HA.out.1.old ((H1.out.2.1.trans k2).drewN m))).mono (fun e w' (h : _ ∧ _ = w') => And.intro h.1 h.2.symm)
      rw [HA.out.2.2.1] at qs
      have HQ := Hid.of qs
      have HKr := Hid.of k2
      clear hg hm f1 f2 f3 kr qs b2 k2
      go_wp2_with fail
      go_quiet (first | (go_at_call 37; exact Calls.quiet_of_same (HQ.out _)))
      go_wp2
      go_roundw
      case rel => exact ⟨k + 1, by omega, by go_num, HKr.out.drewN _⟩
      case measure => simp [intOf]; omega
    · obtain rfl : k = K := by omega
      have hkd : decide ((k : Int) < (k : Int)) = false := by simp
      have HF := Hid.of (show Tab.Out w.heap.size wr (.slice A L.length cap) L ∧ Keeps (fun _ => False) w wr from
        ⟨⟨H1.out.1.1.keep kr (fun _ _ x => x), H1.out.1.2⟩, H1.out.2.1.trans kr⟩)
      rw [HK.out] at HF
      clear kr hlt hk
      go_wp2
      go_ret2
      exact ⟨_, rfl, HF.out⟩
set_option maxRecDepth 100000 in
def eaFrame (x0 x1 x4 x5 : Value) (u : Nat → Value) : Act := { tmps := #[x0, x1, u 2, u 3, x4, x5, u 6, u 7, u 8, u 9, u 10, u 11, u 12, u 13, u 14, u 15, u 16, u 17, u 18, u 19, u 20, u 21, u 22, u 23, u 24, u 25], defers := [] }
set_option maxRecDepth 100000 in
theorem eaFrame_is (v0 v1 v2 v3 v4 v5 v6 v7 v8 v9 v10 v11 v12 v13 v14 v15 v16 v17 v18 v19 v20 v21 v22 v23 v24 v25 : Value) : ({ tmps := #[v0, v1, v2, v3, v4, v5, v6, v7, v8, v9, v10, v11, v12, v13, v14, v15, v16, v17, v18, v19, v20, v21, v22, v23, v24, v25], defers := [] } : Act) = eaFrame v0 v1 v4 v5 (fun i => #[v0, v1, v2, v3, v4, v5, v6, v7, v8, v9, v10, v11, v12, v13, v14, v15, v16, v17, v18, v19, v20, v21, v22, v23, v24, v25].getD i undef) := rfl
def dn (L : List Sp) (i : Nat) : Int := ((L.take i).map (·.n)).sum
theorem dn_succ (L : List Sp) (i : Nat) (h : i < L.length) : dn L (i + 1) = dn L i + (L.getD i ⟨0, 0, false⟩).n := by
  unfold dn
  rw [List.take_add_one, List.getElem?_eq_getElem h, List.map_append, List.sum_append, List.getD_eq_getElem?_getD, List.getElem?_eq_getElem h]
  simp
set_option maxRecDepth 100000 in
set_option maxHeartbeats 1000000 in
/-- A function is called for each span. -/
theorem each_any (f : Nat) (cp : Array Value) (hcf : ∀ args w, Sem.run Tryz.prog (callFunc f args) w = .ok (.enter f args) w) (w : World) (A : Option Addr) (c K : Nat) (L : List Sp) (I : Nat → World → Prop) (h0 : I 0 w) (hK : L.length = K) (hr : ∀ j wr, I j wr → Rd wr A (spans L)) (hL : K ≤ 1000000) (hn : ∀ i, i ≤ K → 0 ≤ dn L i ∧ dn L i ≤ 4000000000)
    (step : ∀ j wr, j < K → I j wr → Calls Tryz.prog f (#[.agg #[.int .i64 (L.getD j ⟨0, 0, false⟩).at', .int .i64 (L.getD j ⟨0, 0, false⟩).n, .bool (L.getD j ⟨0, 0, false⟩).wrote], .int .i64 (dn L j)] ++ cp) wr (fun e w' => e = .returned (.tuple #[]) ∧ I (j + 1) w')) :
    Calls Tryz.prog 106 #[.slice A K c, .func (.func f) #[] cp] w (fun e w' => e = .returned (.tuple #[]) ∧ I K w') := by
  have HH := Hid.of (And.intro hr (And.intro hL (And.intro hn (And.intro step hK))))
  have H0 := Hid.of h0
  clear h0 hK hr hL hn step
  go_enter Tryz.func106, Tryz.ntmps106
  go_wp2
  refine wp_scope_once 0 (fun m a' w' => ∃ (i : Nat) (iv dv : Int) (u : Nat → Value), m = K - i ∧ i ≤ K ∧ a' = eaFrame (.slice A K c) (.func (.func f) #[] cp) (.int .i64 iv) (.int .i64 dv) u ∧ Hid (iv = (i : Int) ∧ dv = dn L i ∧ I i w')) rfl ?_ ?_
  · rintro m a' w' ⟨i, iv, dv, u, rfl, hi, hf, HIV⟩
    obtain ⟨rfl, rfl, hI0⟩ := HIV.out
    have HI := Hid.of hI0
    clear HIV hI0
    unfold eaFrame at hf
    subst hf
    by_cases hlt : i < K
    · have hkd : decide ((i : Int) < (K : Int)) = true := by simp; omega
      have hiL : i < L.length := by rw [HH.out.2.2.2.2]; exact hlt
      obtain ⟨b1, o1, s1, x, y, z, hg, rfl, hc1, hc2, hc3⟩ := sp_cells (HH.out.1 i w' HI.out) i hiL
      have hgd : L.getD i ⟨0, 0, false⟩ = ⟨x, y, z⟩ := by rw [List.getD_eq_getElem?_getD, hg]; rfl
      have q := HH.out.2.2.2.1 i w' hlt HI.out
      have hd := dn_succ L i hiL
      rw [hgd] at q hd
      dsimp only at q hd
      have hb := HH.out.2.2.1 (i + 1) hlt
      have hb0 := HH.out.2.2.1 i (by omega)
      have hi6 : i < 1000000 := by have := HH.out.2.1; omega
      have HD := Hid.of hd
      have HG := Hid.of hg
      rw [hd] at hb
      generalize dn L i = d at *
      have wd : wrap64 (d + y) = d + y := Pc.w64 (by omega) (by omega)
      have wi : wrap64 ((i : Int) + 1) = ((i + 1 : Nat) : Int) := Pc.w64' (by omega) (by omega)
      clear hgd hg hd hb hb0 hiL
      go_wp2_with fail
      refine q.mono ?_
      rintro e w1 ⟨rfl, hI⟩
      obtain ⟨b1', o1', s1', x', y', z', hg', he, hd1, hd2, hd3⟩ := sp_cells (HH.out.1 (i + 1) w1 hI) i (by rw [HH.out.2.2.2.2]; exact hlt)
      have hxy := HG.out.symm.trans hg'
      cases hxy
      cases he
      have HI1 := Hid.of hI
      clear q hI hc1 hc2 hc3 hg'
      go_wp2
      go_step3
      exact ⟨rfl, K - (i + 1), by omega, i + 1, _, _, _, rfl, hlt, eaFrame_is .., Hid.of ⟨by first | rfl | exact wi, by first | exact HD.out.symm | exact wd.trans HD.out.symm, HI1.out⟩⟩
    · obtain rfl : i = K := by omega
      have hkd : decide ((i : Int) < (i : Int)) = false := by simp
      clear hi hlt
      go_wp2
      simp only [Exit.jump]
      go_end0
      exact ⟨rfl, HI.out⟩
  · intro hr
    go_wp2_with fail
    first
      | (refine wp_label ?_
         exact hr K _ _ ⟨0, 0, 0, _, rfl, by omega, eaFrame_is .., Hid.of ⟨rfl, rfl, H0.out⟩⟩)
      | (go_step3
         refine (by assumption : ∀ (a : Act) (w : World), Code.wp _ _ _ a w → _) _ _ ?_
         exact hr K _ _ ⟨0, 0, 0, _, rfl, by omega, eaFrame_is .., Hid.of ⟨rfl, rfl, H0.out⟩⟩)
end Vw
end Go.Proofs.YtnheibcjcgacpaaGreatDoor

/-! The view package's walks: what is done with each piece; Read, Write, Zero, Copy. -/
namespace Go.Proofs.YtnheibcjcgacpaaGreatDoor
open Go.RowKit Go.ChangeMaps
namespace Vw
open Vs
/-- A span as numbers. -/
def at0 (s : Sp) : Nat := s.at'.toNat
def n0 (s : Sp) : Nat := s.n.toNat
theorem Fit.at {N : Nat} {L : List Sp} (h : Fit N L) {j : Nat} (hj : j < L.length) : ∃ a n : Nat, (L.getD j ⟨0, 0, false⟩).at' = (a : Int) ∧ (L.getD j ⟨0, 0, false⟩).n = (n : Int) ∧ a + n ≤ N ∧ at0 (L.getD j ⟨0, 0, false⟩) = a ∧ n0 (L.getD j ⟨0, 0, false⟩) = n := by
  have hm : L.getD j ⟨0, 0, false⟩ ∈ L := by rw [List.getD_eq_getElem?_getD, List.getElem?_eq_getElem hj]; exact List.getElem_mem hj
  obtain ⟨h1, h2, h3⟩ := h _ hm
  exact ⟨_, _, (Int.toNat_of_nonneg h1).symm, (Int.toNat_of_nonneg h2).symm, by omega, rfl, rfl⟩
def zeroS (S : Ar.AS) (s : Sp) : Ar.AS := ⟨bput S.B (at0 s) (List.replicate (n0 s) 0), Ar.note S.T (at0 s) (n0 s) true⟩
def readS (S : Ar.AS) (s : Sp) : Ar.AS := ⟨S.B, Ar.note S.T (at0 s) (n0 s) false⟩
def rdS (B : Bs) (s : Sp) : Bs := (B.drop (at0 s)).take (n0 s)
set_option maxRecDepth 100000 in
theorem zero1_any (w : World) (p : Ar.Pl) (v : Value) (S : Ar.AS) (c0 : Nat) (a n : Nat) (z : Bool) (d : Int) (ar : Ar.AtV w p v S) (hc : w.cell? ⟨c0, 0, none⟩ = some (.pointer (some ⟨p.a, 0, none⟩))) (hf : a + n ≤ S.B.length) (hT : S.T.length ≤ 1000000000) :
    Calls Tryz.prog 251 #[.agg #[.int .i64 a, .int .i64 n, .bool z], .int .i64 d, .pointer (some ⟨c0, 0, none⟩)] w fun e w' => e = .returned (.tuple #[]) ∧ Ar.R w p v ⟨bput S.B a (List.replicate n 0), Ar.note S.T a n true⟩ w' := by
  obtain ⟨w1, hw1⟩ : ∃ w1, w.alloc (.cells #[.int .i64 a, .int .i64 n, .bool z] 61) = w1 := ⟨_, rfl⟩
  have b1 : w1.heap[w.heap.size]? = some (.cells #[.int .i64 a, .int .i64 n, .bool z] 61 (0, 0)) := by rw [← hw1]; exact alloc_new _ _
  have k1 : Keeps (fun _ => False) w w1 := by rw [← hw1]; exact (Keeps.refl _ _).alloc _
  have e0 := cell_of b1 0 (v := .int .i64 a) rfl
  have e1 := cell_of b1 1 (v := .int .i64 n) rfl
  have hc1 := keep_cell1 k1 hc
  have q := Ar.zero_any w1 p v S a n (ar.old k1) hf hT
  unfold Ar.DoneR at q
  have HK := Hid.of k1
  clear ar hf hT k1 b1 hc
  go_enter Tryz.func251, Tryz.ntmps251
  go_wp2_with fail
  refine q.mono ?_
  rintro e w2 ⟨rfl, r2⟩
  have HF := Hid.of (Ar.R.after HK.out r2)
  clear q r2
  go_wp2
  go_end0
  exact ⟨rfl, HF.out⟩
theorem Ar_R_id {w w1 : World} {p : Ar.Pl} {v : Value} {S : Ar.AS} (h : Ar.AtV w p v S) (e : w1 = w) : Ar.R w p v S w1 := by subst e; exact Ar.R.refl h (Keeps.refl _ _)
theorem each_ar (f : Nat) (cp : Array Value) (hcf : ∀ args w, Sem.run Tryz.prog (callFunc f args) w = .ok (.enter f args) w) (w : World) (p : Ar.Pl) (v : Value) (acc : Nat → Ar.AS) (A : Option Addr) (c K : Nat) (L : List Sp) (ar : Ar.AtV w p v (acc 0)) (hK : L.length = K) (hr : Rd w A (spans L)) (hA : ∀ ad, A = some ad → ¬ Ar.Fp p v ad.block) (hL : K ≤ 1000000) (hn : ∀ i, i ≤ K → 0 ≤ dn L i ∧ dn L i ≤ 4000000000)
    (step : ∀ j wr v', j < K → Ar.AtV wr p v' (acc j) → Keeps (Ar.Fp p v) w wr → (∀ x, Ar.Fp p v' x → Ar.Fp p v x ∨ w.heap.size ≤ x) → Calls Tryz.prog f (#[.agg #[.int .i64 (L.getD j ⟨0, 0, false⟩).at', .int .i64 (L.getD j ⟨0, 0, false⟩).n, .bool (L.getD j ⟨0, 0, false⟩).wrote], .int .i64 (dn L j)] ++ cp) wr (fun e w' => e = .returned (.tuple #[]) ∧ Ar.R wr p v' (acc (j + 1)) w')) :
    Calls Tryz.prog 106 #[.slice A K c, .func (.func f) #[] cp] w (fun e w' => e = .returned (.tuple #[]) ∧ Ar.R w p v (acc K) w') := by
  refine each_any f cp hcf w A c K L (fun i wr => Ar.R w p v (acc i) wr) (Ar.R.refl ar (Keeps.refl _ _)) hK (fun j wr hI => ?_) hL hn (fun j wr hj hI => ?_)
  · obtain ⟨v', a', k', f'⟩ := hI
    exact hr.keep k' (fun ad ha _ => hA ad ha)
  · have hI0 := hI
    obtain ⟨v', a', k', f'⟩ := hI
    refine (step j wr v' hj a' k' f').mono ?_
    rintro e w' ⟨rfl, v2, a2, k2, f2⟩
    refine ⟨rfl, v2, a2, k'.trans' k2 (fun x hx hl => ?_), fun x hx => ?_⟩
    · rcases f' x hx with h | h
      · exact h
      · omega
    · rcases f2 x hx with h | h
      · exact f' x h
      · exact .inr (Nat.le_trans k'.size h)
def accS (f : Ar.AS → Sp → Ar.AS) (S : Ar.AS) (L : List Sp) (i : Nat) : Ar.AS := (L.take i).foldl f S
theorem accS_succ (f : Ar.AS → Sp → Ar.AS) (S : Ar.AS) (L : List Sp) {i : Nat} (h : i < L.length) : accS f S L (i + 1) = f (accS f S L i) (L.getD i ⟨0, 0, false⟩) := by
  unfold accS
  rw [List.take_add_one, List.getElem?_eq_getElem h, List.foldl_append, List.getD_eq_getElem?_getD, List.getElem?_eq_getElem h]
  rfl
theorem accS_all (f : Ar.AS → Sp → Ar.AS) (S : Ar.AS) {L : List Sp} {n : Nat} (h : L.length = n) : accS f S L n = L.foldl f S := by unfold accS; rw [List.take_of_length_le (by omega)]
theorem zero_len {S : Ar.AS} {L : List Sp} (h : Fit S.B.length L) : ∀ i, i ≤ L.length → (accS zeroS S L i).B.length = S.B.length ∧ (accS zeroS S L i).T.length ≤ S.T.length + i
  | 0, _ => ⟨rfl, Nat.le_refl _⟩
  | i + 1, hi => by
    obtain ⟨h1, h2⟩ := zero_len h i (by omega)
    obtain ⟨a, n, -, -, h3, h4, h5⟩ := h.at (j := i) hi
    rw [accS_succ _ _ _ hi]
    refine ⟨?_, ?_⟩
    · show (bput _ _ _).length = _
      rw [bput_length _ _ _ (by rw [List.length_replicate, h4, h5, h1]; exact h3)]; exact h1
    · show (Ar.note _ _ _ _).length ≤ _
      have := Ar.note_len (accS zeroS S L i).T (at0 (L.getD i ⟨0, 0, false⟩)) (n0 (L.getD i ⟨0, 0, false⟩)) true
      omega
theorem dn_le {N : Nat} {L : List Sp} (h : Fit N L) (hN : N ≤ 2097152) (hL : L.length ≤ 1000) : ∀ i, i ≤ L.length → 0 ≤ dn L i ∧ dn L i ≤ 2097152 * i
  | 0, _ => ⟨by simp [dn], by simp [dn]⟩
  | i + 1, hi => by
    obtain ⟨h1, h2⟩ := dn_le h hN hL i (by omega)
    obtain ⟨a, n, h3, h4, h5, -, -⟩ := h.at (j := i) hi
    rw [dn_succ L i hi, h4]
    omega
def ZroR (w : World) (p : Ar.Pl) (v : Value) (S' : Ar.AS) (e : Ending) (w' : World) : Prop := e = .returned (.int .i64 0) ∧ Ar.R w p v S' w'
set_option maxRecDepth 100000 in
set_option maxHeartbeats 1000000 in
theorem zero_any (w : World) (p : Ar.Pl) (v : Value) (S : Ar.AS) (b m n : Nat) (E G : Tab.Prs) (a0 c0 : Int) (L : List Sp) (ar : Ar.AtV w p v S) (tb : Tab.At w b m n E G) (hE : ∀ k, Tab.fnd E k ≤ 1048576) (hp : Tab.pieces E a0 c0 = some L) (hf : Fit S.B.length L) (hL : L.length ≤ 1000) (hT : S.T.length + 1000 ≤ 1000000000) :
    Calls Tryz.prog 159 #[.pointer (some ⟨p.a, 0, none⟩), .pointer (some ⟨b, 0, none⟩), .int .i64 a0, .int .i64 c0] w (ZroR w p v (L.foldl zeroS S)) := by
  obtain ⟨w1, hw1⟩ : ∃ w1, w.alloc (.cells #[.pointer (some ⟨p.a, 0, none⟩)] 34) = w1 := ⟨_, rfl⟩
  have b1 : w1.heap[w.heap.size]? = some (.cells #[.pointer (some ⟨p.a, 0, none⟩)] 34 (0, 0)) := by rw [← hw1]; exact alloc_new _ _
  have k1 : Keeps (fun _ => False) w w1 := by rw [← hw1]; exact (Keeps.refl _ _).alloc _
  have e0 := cell_of b1 0 (v := .pointer (some ⟨p.a, 0, none⟩)) rfl
  have q1 := pieces_any w1 p v S b m n E G a0 c0 L (ar.old k1) (tb.old k1) hE hp hf (by omega)
  unfold PcsR at q1
  have hmf : ∀ (fn : Fn) (first cap : Array Value) (w : World), (Instr.makeFunc fn first cap).run Tryz.prog w = .ok (.func fn first cap) w := fun _ _ _ _ => rfl
  have HH := Hid.of (And.intro ar (And.intro hf (And.intro hL (And.intro hT (And.intro k1 e0)))))
  clear ar tb hE hp hf hL hT k1 b1
  go_enter Tryz.func159, Tryz.ntmps159
  go_wp2_with fail
  refine q1.mono ?_
  rintro e w2 ⟨vs, rfl, o2, k2⟩
  obtain ⟨A, cap, rfl, -, hA, hr⟩ := o2.rd
  have e2 := keep_cell1 k2 e0
  have a2 := (HH.out.1.old HH.out.2.2.2.2.1).old k2
  have q3 := each_ar 251 #[.pointer (some ⟨w.heap.size, 0, none⟩)] (fun args w => by kernel_rfl) w2 p v (accS zeroS S L) A cap L.length L a2 rfl hr (fun ad ha hx => by
      have h1 := (hA ad ha).1
      have h2 := (HH.out.1.old HH.out.2.2.2.2.1).lt hx
      omega) (by have := HH.out.2.2.1; omega) (fun i hi => by have := dn_le HH.out.2.1 HH.out.1.len HH.out.2.2.1 i hi; have := HH.out.2.2.1; omega)
    (fun j wr v' hj a' k' g' => by
      obtain ⟨a, n, h1, h2, h3, h4, h5⟩ := HH.out.2.1.at (j := j) hj
      obtain ⟨z1, z2⟩ := zero_len HH.out.2.1 j (by omega)
      rw [accS_succ _ _ _ hj, h1, h2]
      have hlt := HH.out.2.2.1
      have hT := HH.out.2.2.2.1
      have hcell : wr.cell? ⟨w.heap.size, 0, none⟩ = some (.pointer (some ⟨p.a, 0, none⟩)) := keep_cell k' (fun hx => by have := HH.out.1.lt hx; omega) e2
      have q := zero1_any wr p v' (accS zeroS S L j) w.heap.size a n (L.getD j ⟨0, 0, false⟩).wrote (dn L j) a' hcell (by rw [z1]; exact h3) (by omega)
      unfold zeroS
      rw [h4, h5]
      exact q)
  rw [accS_all _ _ rfl] at q3
  have HK := Hid.of (HH.out.2.2.2.2.1.trans k2)
  clear q1 o2 k2 hA hr a2 e0 e2 hw1
  go_wp2_with fail
  refine q3.mono ?_
  rintro e w3 ⟨rfl, r3⟩
  have HF := Hid.of (Ar.R.after HK.out r3)
  clear q3 r3
  go_wp2
  go_ret
  exact ⟨rfl, HF.out⟩
theorem str_slice (data : Bs) (d n : Nat) (h : d + n ≤ data.length) (w : World) : (Instr.slice 9 (.string (bs data)) (some (.int .i64 (d : Int))) (some (.int .i64 ((d + n : Nat) : Int))) none).run Tryz.prog w = .ok (.string (bs ((data.drop d).take n))) w := by
  have := run_slice_string (P := Tryz.prog) w 9 (bs data) .i64 .i64 (d : Int) ((d + n : Nat) : Int) Tryz.underlying9 (by omega) (by omega) (by rw [bs_size]; omega)
  rw [this, Int.toNat_natCast, Int.toNat_natCast, bs_extract, List.drop_take, show d + n - d = n by omega]
set_option maxRecDepth 100000 in
theorem write1_any (w : World) (p : Ar.Pl) (v : Value) (S : Ar.AS) (c0 c1 : Nat) (data : Bs) (a n d : Nat) (z : Bool) (ar : Ar.AtV w p v S) (hc : w.cell? ⟨c0, 0, none⟩ = some (.pointer (some ⟨p.a, 0, none⟩))) (hd : w.cell? ⟨c1, 0, none⟩ = some (.string (bs data))) (hn0 : ¬ Ar.Fp p v c0) (hn1 : ¬ Ar.Fp p v c1) (hf : a + n ≤ S.B.length) (hdn : d + n ≤ data.length) (hdl : data.length ≤ 100000000) (hT : S.T.length ≤ 1000000000) :
    Calls Tryz.prog 107 #[.agg #[.int .i64 a, .int .i64 n, .bool z], .int .i64 d, .pointer (some ⟨c0, 0, none⟩), .pointer (some ⟨c1, 0, none⟩)] w fun e w' => e = .returned (.tuple #[]) ∧ Ar.R w p v ⟨bput S.B a ((data.drop d).take n), Ar.note S.T a n true⟩ w' := by
  obtain ⟨w1, hw1⟩ : ∃ w1, w.alloc (.cells #[.int .i64 a, .int .i64 n, .bool z] 61) = w1 := ⟨_, rfl⟩
  have b1 : w1.heap[w.heap.size]? = some (.cells #[.int .i64 a, .int .i64 n, .bool z] 61 (0, 0)) := by rw [← hw1]; exact alloc_new _ _
  have k1 : Keeps (fun _ => False) w w1 := by rw [← hw1]; exact (Keeps.refl _ _).alloc _
  have e0 := cell_of b1 0 (v := .int .i64 a) rfl
  have e1 := cell_of b1 1 (v := .int .i64 n) rfl
  have hc1 := keep_cell1 k1 hc
  have hd1 := keep_cell1 k1 hd
  have hlen : ((data.drop d).take n).length = n := by rw [List.length_take, List.length_drop]; omega
  have hsl := fun wx => str_slice data d n hdn wx
  have wdn : IntKind.i64.wrap ((d : Int) + (n : Int)) = ((d + n : Nat) : Int) := IntWalk.i64_in _ (by omega)
  have wdn2 : wrap64 ((d : Int) + (n : Int)) = ((d + n : Nat) : Int) := Pc.w64' rfl (by omega)
  have q := fun wx (k : Keeps (fun _ => False) w1 wx) => Ar.write_any wx p v S a ((data.drop d).take n) ((ar.old k1).old k) (by rw [hlen]; exact hf) hT
  rw [hlen] at q
  unfold Ar.DoneR at q
  have q0 := q w1.drew ((Keeps.refl _ _).drew)
  have HK := Hid.of k1
  have HN := Hid.of (And.intro hn0 (And.intro hn1 (show ¬ Ar.Fp p v w.heap.size from fun hx => by have := ar.lt hx; omega)))
  generalize (data.drop d).take n = D at *
  generalize d + n = X at *
  clear ar hf hT k1 b1 hc hd hlen hdn hdl q hn0 hn1
  go_enter Tryz.func107, Tryz.ntmps107
  go_wp2_with fail
  go_region_held3 (fun wx => wx.cell? ⟨c0, 0, none⟩ = some (.pointer (some ⟨p.a, 0, none⟩)) ∧ wx.cell? ⟨c1, 0, none⟩ = some (.string (bs data)) ∧ wx.cell? ⟨w.heap.size, 0, none⟩ = some (.int .i64 a) ∧ wx.cell? ⟨w.heap.size, 1, none⟩ = some (.int .i64 n))
    (first | exact ⟨hc1, hd1, e0, e1⟩ | exact ⟨hc3, hd3, e3, e4⟩)
    (first | (go_at_call 108; refine q0.mono ?_; clear q0; rintro e w3 ⟨rfl, r3⟩; have HF := Hid.of (Ar.R.after HK.out (Ar.R.after ((Keeps.refl _ _).drew) r3)); obtain ⟨v3, a3, k3, f3⟩ := r3; have hc3 := keep_cell k3 HN.out.1 hc1; have hd3 := keep_cell k3 HN.out.2.1 hd1; have e3 := keep_cell k3 HN.out.2.2 e0; have e4 := keep_cell k3 HN.out.2.2 e1; clear a3 k3 f3))
  go_wp2
  go_end0
  exact ⟨rfl, HF.out⟩
theorem dn_mono {N : Nat} {L : List Sp} (h : Fit N L) {i : Nat} : ∀ k, i ≤ k → k ≤ L.length → dn L i ≤ dn L k
  | 0, h1, _ => by obtain rfl : i = 0 := by omega
                   exact Int.le_refl _
  | k + 1, h1, h2 => by
    by_cases e : i = k + 1
    · rw [e]; exact Int.le_refl _
    · have ih := dn_mono (N := N) (L := L) (i := i) h k (by omega) (by omega)
      obtain ⟨a, n, h3, h4, h5, -, -⟩ := h.at (j := k) h2
      rw [dn_succ L k h2, h4]; omega
def writeS (S : Ar.AS) (data : Bs) (L : List Sp) : Nat → Ar.AS
  | 0 => S
  | i + 1 => ⟨bput (writeS S data L i).B (at0 (L.getD i ⟨0, 0, false⟩)) ((data.drop (dn L i).toNat).take (n0 (L.getD i ⟨0, 0, false⟩))), Ar.note (writeS S data L i).T (at0 (L.getD i ⟨0, 0, false⟩)) (n0 (L.getD i ⟨0, 0, false⟩)) true⟩
theorem write_len {S : Ar.AS} {data : Bs} {L : List Sp} (h : Fit S.B.length L) (hs : dn L L.length = (data.length : Int)) (hN : S.B.length ≤ 2097152) (hL : L.length ≤ 1000) : ∀ i, i ≤ L.length → (writeS S data L i).B.length = S.B.length ∧ (writeS S data L i).T.length ≤ S.T.length + i
  | 0, _ => ⟨rfl, Nat.le_refl _⟩
  | i + 1, hi => by
    obtain ⟨h1, h2⟩ := write_len h hs hN hL i (by omega)
    obtain ⟨a, n, h6, h7, h3, h4, h5⟩ := h.at (j := i) hi
    refine ⟨?_, ?_⟩
    · show (bput _ _ _).length = _
      have hl : ((data.drop (dn L i).toNat).take (n0 (L.getD i ⟨0, 0, false⟩))).length ≤ n := by rw [List.length_take, h5]; omega
      rw [bput_length _ _ _ (by rw [h4, h1]; omega)]; exact h1
    · show (Ar.note _ _ _ _).length ≤ _
      have := Ar.note_len (writeS S data L i).T (at0 (L.getD i ⟨0, 0, false⟩)) (n0 (L.getD i ⟨0, 0, false⟩)) true
      omega
set_option maxRecDepth 100000 in
set_option maxHeartbeats 1000000 in
theorem write_any (w : World) (p : Ar.Pl) (v : Value) (S : Ar.AS) (b m n : Nat) (E G : Tab.Prs) (a0 : Int) (data : Bs) (L : List Sp) (ar : Ar.AtV w p v S) (tb : Tab.At w b m n E G) (hE : ∀ k, Tab.fnd E k ≤ 1048576) (hp : Tab.pieces E a0 (data.length : Int) = some L) (hf : Fit S.B.length L) (hs : dn L L.length = (data.length : Int)) (hL : L.length ≤ 1000) (hT : S.T.length + 1000 ≤ 1000000000) (hdl : data.length ≤ 100000000) :
    Calls Tryz.prog 34 #[.pointer (some ⟨p.a, 0, none⟩), .pointer (some ⟨b, 0, none⟩), .int .i64 a0, .string (bs data)] w (ZroR w p v (writeS S data L L.length)) := by
  obtain ⟨w1, hw1⟩ : ∃ w1, w.alloc (.cells #[.pointer (some ⟨p.a, 0, none⟩)] 34) = w1 := ⟨_, rfl⟩
  have b1 : w1.heap[w.heap.size]? = some (.cells #[.pointer (some ⟨p.a, 0, none⟩)] 34 (0, 0)) := by rw [← hw1]; exact alloc_new _ _
  have k1 : Keeps (fun _ => False) w w1 := by rw [← hw1]; exact (Keeps.refl _ _).alloc _
  have hz1 : w1.heap.size = w.heap.size + 1 := by rw [← hw1]; simp
  obtain ⟨w2, hw2⟩ : ∃ w2, w1.alloc (.cells #[.string (bs data)] 9) = w2 := ⟨_, rfl⟩
  have b2 : w2.heap[w.heap.size + 1]? = some (.cells #[.string (bs data)] 9 (0, 0)) := by rw [← hw2]; exact alloc_at _ _ _ hz1.symm
  have k2 : Keeps (fun _ => False) w1 w2 := by rw [← hw2]; exact (Keeps.refl _ _).alloc _
  have e0 := cell_of (k2.at b1 (fun x => x)) 0 (v := .pointer (some ⟨p.a, 0, none⟩)) rfl
  have e1 := cell_of b2 0 (v := .string (bs data)) rfl
  have q1 := pieces_any w2 p v S b m n E G a0 data.length L ((ar.old k1).old k2) ((tb.old k1).old k2) hE hp hf (by omega)
  unfold PcsR at q1
  have hsz := bs_size data
  have hmf : ∀ (fn : Fn) (first cap : Array Value) (w : World), (Instr.makeFunc fn first cap).run Tryz.prog w = .ok (.func fn first cap) w := fun _ _ _ _ => rfl
  have HH := Hid.of (And.intro ar (And.intro hf (And.intro hL (And.intro hT (And.intro (k1.trans k2) (And.intro hs hdl))))))
  obtain ⟨dl, hdl2⟩ : ∃ dl, data.length = dl := ⟨_, rfl⟩
  have hdlb : dl ≤ 100000000 := by omega
  rw [hdl2] at q1 hsz
  clear ar tb hE hp hf hL hT k1 b1 k2 b2 hs hdl hdl2
  go_enter Tryz.func34, Tryz.ntmps34
  go_wp2_with fail
  refine q1.mono ?_
  rintro e w3 ⟨vs, rfl, o3, k3⟩
  obtain ⟨A, cap, rfl, -, hA, hr⟩ := o3.rd
  have d0 := keep_cell1 k3 e0
  have d1 := keep_cell1 k3 e1
  have a3 := (HH.out.1.old HH.out.2.2.2.2.1).old k3
  have q3 := each_ar 107 #[.pointer (some ⟨w.heap.size, 0, none⟩), .pointer (some ⟨w.heap.size + 1, 0, none⟩)] (fun args w => by kernel_rfl) w3 p v (writeS S data L) A cap L.length L a3 rfl hr (fun ad ha hx => by
      have h1 := (hA ad ha).1
      have h2 := (HH.out.1.old HH.out.2.2.2.2.1).lt hx
      omega) (by have := HH.out.2.2.1; omega) (fun i hi => by have := dn_le HH.out.2.1 HH.out.1.len HH.out.2.2.1 i hi; have := HH.out.2.2.1; omega)
    (fun j wr v' hj a' k' g' => by
      obtain ⟨a, n, h1, h2, h3, h4, h5⟩ := HH.out.2.1.at (j := j) hj
      obtain ⟨z1, z2⟩ := write_len HH.out.2.1 HH.out.2.2.2.2.2.1 HH.out.1.len HH.out.2.2.1 j (by omega)
      have hm := dn_mono HH.out.2.1 (i := j + 1) L.length (by omega) (Nat.le_refl _)
      have hd0 := (dn_le HH.out.2.1 HH.out.1.len HH.out.2.2.1 j (by omega)).1
      rw [dn_succ L j hj, h2, HH.out.2.2.2.2.2.1] at hm
      show Calls _ _ _ _ (fun e w' => e = .returned (.tuple #[]) ∧ Ar.R wr p v' ⟨bput (writeS S data L j).B (at0 (L.getD j ⟨0, 0, false⟩)) ((data.drop (dn L j).toNat).take (n0 (L.getD j ⟨0, 0, false⟩))), Ar.note (writeS S data L j).T (at0 (L.getD j ⟨0, 0, false⟩)) (n0 (L.getD j ⟨0, 0, false⟩)) true⟩ w')
      rw [h1, h2, h4, h5]
      obtain ⟨d, hd⟩ : ∃ d : Nat, dn L j = (d : Int) := ⟨(dn L j).toNat, by omega⟩
      rw [hd] at hm ⊢
      rw [Int.toNat_natCast]
      have hlt := HH.out.2.2.1
      have hT := HH.out.2.2.2.1
      have hcell : wr.cell? ⟨w.heap.size, 0, none⟩ = some (.pointer (some ⟨p.a, 0, none⟩)) := keep_cell k' (fun hx => by have := HH.out.1.lt hx; omega) d0
      have hcell1 : wr.cell? ⟨w.heap.size + 1, 0, none⟩ = some (.string (bs data)) := keep_cell k' (fun hx => by have := HH.out.1.lt hx; omega) d1
      have hz3 : w.heap.size + 2 ≤ w3.heap.size := by have h1 := k3.size; rw [← hw2] at h1; have h2 : (w1.alloc (.cells #[.string (bs data)] 9)).heap.size = w1.heap.size + 1 := by simp
                                                      rw [← hw1] at h1 h2; simp at h1; omega
      exact write1_any wr p v' (writeS S data L j) w.heap.size (w.heap.size + 1) data a n d (L.getD j ⟨0, 0, false⟩).wrote a' hcell hcell1 (fun hx => by rcases g' _ hx with q | q; (have := HH.out.1.lt q; omega); omega) (fun hx => by rcases g' _ hx with q | q; (have := HH.out.1.lt q; omega); omega) (by rw [z1]; exact h3) (by omega) HH.out.2.2.2.2.2.2 (by omega))
  have HK := Hid.of (HH.out.2.2.2.2.1.trans k3)
  clear q1 o3 k3 hA hr a3 e0 e1 d0 d1 hw1 hw2
  go_wp2_with fail
  refine q3.mono ?_
  rintro e w4 ⟨rfl, r4⟩
  have HF := Hid.of (Ar.R.after HK.out r4)
  clear q3 r4
  go_wp2
  go_ret
  exact ⟨rfl, HF.out⟩
def rdL (B : Bs) (L : List Sp) : Bs := L.flatMap (rdS B)
theorem rdL_succ (B : Bs) (L : List Sp) {i : Nat} (h : i < L.length) : rdL B (L.take (i + 1)) = rdL B (L.take i) ++ rdS B (L.getD i ⟨0, 0, false⟩) := by
  unfold rdL
  rw [List.take_add_one, List.getElem?_eq_getElem h, List.flatMap_append, List.getD_eq_getElem?_getD, List.getElem?_eq_getElem h]
  simp
theorem rdL_len {N : Nat} {B : Bs} {L : List Sp} (h : Fit N L) (hN : N = B.length) : ∀ i, i ≤ L.length → ((rdL B (L.take i)).length : Int) = dn L i
  | 0, _ => by simp [rdL, dn]
  | i + 1, hi => by
    have ih := rdL_len h hN i (by omega)
    obtain ⟨a, n, h3, h4, h5, h6, h7⟩ := h.at (j := i) hi
    rw [rdL_succ B L hi, dn_succ L i hi, List.length_append, h4]
    have : (rdS B (L.getD i ⟨0, 0, false⟩)).length = n := by unfold rdS; rw [h6, h7, List.length_take, List.length_drop]; omega
    omega
theorem read_len {S : Ar.AS} {L : List Sp} : ∀ i, i ≤ L.length → (accS readS S L i).B = S.B ∧ (accS readS S L i).T.length ≤ S.T.length + i
  | 0, _ => ⟨rfl, Nat.le_refl _⟩
  | i + 1, hi => by
    obtain ⟨h1, h2⟩ := read_len (S := S) (L := L) i (by omega)
    rw [accS_succ _ _ _ hi]
    refine ⟨h1, ?_⟩
    show (Ar.note _ _ _ _).length ≤ _
    have := Ar.note_len (accS readS S L i).T (at0 (L.getD i ⟨0, 0, false⟩)) (n0 (L.getD i ⟨0, 0, false⟩)) false
    omega
def Rd1R (w : World) (p : Ar.Pl) (v : Value) (S : Ar.AS) (N b : Nat) (u : Value) (l : Bs) (a n : Nat) (e : Ending) (w' : World) : Prop :=
  e = .returned (.tuple #[]) ∧ ∃ v' u', Ar.AtV w' p v' ⟨S.B, Ar.note S.T a n false⟩ ∧ BB N w' b (self b) u' (l ++ (S.B.drop a).take n) ∧ Keeps (fun x => Ar.Fp p v x ∨ x = b ∨ u.ownBlock = some x) w w' ∧ ∀ x, Ar.Fp p v' x → Ar.Fp p v x ∨ w.heap.size ≤ x
theorem own_typed {w : World} {e sz : Nat} {v : Value} {n : Nat} {xs : List Value} (h : Own w e sz v n xs) {g : Nat} (hg : v.ownBlock = some g) : ∃ c, w.heap[g]? = some (.cells c e (0, 0)) := by
  rcases h.2 with ⟨hv, _⟩ | ⟨g', cap, cur, hv, hB, hh, _⟩
  · rw [hv] at hg; cases hg
  · rw [hv] at hg; cases hg; exact ⟨_, hh⟩
theorem own_apart {N : Nat} {w : World} {p : Ar.Pl} {v : Value} {S : Ar.AS} {b : Nat} {q u : Value} {l : Bs} (a : Ar.AtV w p v S) (h : BB N w b q u l) (hp : p.a < N ∧ p.g < N) {g : Nat} (hg : u.ownBlock = some g) : ¬ Ar.Fp p v g := by
  obtain ⟨h1, c, hc⟩ := row_lt h.row hg
  rintro (e | e | e)
  · omega
  · omega
  · obtain ⟨c', hc'⟩ := own_typed a.tch e
    rw [hc] at hc'
    injection hc' with hc'
    injection hc' with _ hc'
    exact absurd hc' (by decide)
set_option maxRecDepth 100000 in
set_option maxHeartbeats 1000000 in
theorem read1_any (w : World) (p : Ar.Pl) (v : Value) (S : Ar.AS) (c0 N b : Nat) (q u : Value) (l : Bs) (a n : Nat) (z : Bool) (d : Int) (ar : Ar.AtV w p v S) (bb : BB N w b q u l) (hp : p.a < N ∧ p.g < N) (hb : ¬ Ar.Fp p v b) (hN : N ≤ w.heap.size) (hc : w.cell? ⟨c0, 0, none⟩ = some (.pointer (some ⟨p.a, 0, none⟩))) (hf : a + n ≤ S.B.length) (hT : S.T.length ≤ 1000000000) (hl : l.length + n ≤ 1000000000) :
    Calls Tryz.prog 126 #[.agg #[.int .i64 a, .int .i64 n, .bool z], .int .i64 d, .pointer (some ⟨c0, 0, none⟩), .pointer (some ⟨b, 0, none⟩)] w (Rd1R w p v S N b u l a n) := by
  obtain ⟨w1, hw1⟩ : ∃ w1, w.alloc (.cells #[.int .i64 a, .int .i64 n, .bool z] 61) = w1 := ⟨_, rfl⟩
  have b1 : w1.heap[w.heap.size]? = some (.cells #[.int .i64 a, .int .i64 n, .bool z] 61 (0, 0)) := by rw [← hw1]; exact alloc_new _ _
  have k1 : Keeps (fun _ => False) w w1 := by rw [← hw1]; exact (Keeps.refl _ _).alloc _
  have e0 := cell_of b1 0 (v := .int .i64 a) rfl
  have e1 := cell_of b1 1 (v := .int .i64 n) rfl
  have hc1 := keep_cell1 k1 hc
  have q1 := Ar.read_any w1 p v S a n (ar.old k1) hf hT
  unfold Ar.ReadR at q1
  have hlen : ((S.B.drop a).take n).length = n := by rw [List.length_take, List.length_drop]; omega
  have HH := Hid.of (And.intro ar (And.intro bb (And.intro hp (And.intro hb (And.intro k1 (And.intro hl (And.intro hlen hN)))))))
  clear ar bb hp hb hf hT k1 b1 hc hl hN hlen
  unfold Rd1R
  generalize (S.B.drop a).take n = D at *
  go_enter Tryz.func126, Tryz.ntmps126
  go_wp2_with fail
  refine q1.mono ?_
  rintro e w2 ⟨rfl, v2, a2, k2, f2⟩
  have B2 : BB N w2 b q u l := (HH.out.2.1.keep HH.out.2.2.2.2.1 (fun x => x) (fun _ _ x => x)).keep k2 HH.out.2.2.2.1 (fun g hg => own_apart HH.out.1 HH.out.2.1 HH.out.2.2.1 hg)
  have q2 := wstr_any N w2 b q u l D B2 (by rw [HH.out.2.2.2.2.2.2.1]; exact HH.out.2.2.2.2.2.1) (Nat.le_trans HH.out.2.2.2.2.2.2.2 (Nat.le_trans HH.out.2.2.2.2.1.size k2.size))
  unfold WsR at q2
  have H2 := Hid.of (And.intro a2 (And.intro k2 (And.intro f2 B2)))
  clear q1 a2 k2 f2 B2
  go_wp2_with fail
  refine q2.mono ?_
  rintro e w3 ⟨rfl, u3, b3, k3⟩
  have HF := Hid.of (show ∃ v' u', Ar.AtV w3 p v' ⟨S.B, Ar.note S.T a n false⟩ ∧ BB N w3 b (self b) u' (l ++ D) ∧ Keeps (fun x => Ar.Fp p v x ∨ x = b ∨ u.ownBlock = some x) w w3 ∧ ∀ x, Ar.Fp p v' x → Ar.Fp p v x ∨ w.heap.size ≤ x from by
    obtain ⟨a2, k2, f2, B2⟩ := H2.out
    have kk := HH.out.2.2.2.2.1
    have hblt := lt_of HH.out.2.1.cells
    have hnb : ∀ x, Ar.Fp p v2 x → ¬ (x = b ∨ u.ownBlock = some x) := fun x hx e => by
      rcases e with e | e
      · subst e
        rcases f2 x hx with h | h
        · exact HH.out.2.2.2.1 h
        · have := kk.size; omega
      · exact own_apart a2 B2 HH.out.2.2.1 e hx
    refine ⟨v2, u3, a2.keep k3 hnb, b3, ((kk.mono (fun _ _ x => x.elim)).trans (k2.mono (fun x _ hx => .inl hx))).trans (k3.mono (fun x _ hx => .inr hx)), fun x hx => ?_⟩
    rcases f2 x hx with h | h
    · exact .inl h
    · exact .inr (Nat.le_trans kk.size h))
  clear q2 b3 k3
  go_wp2
  go_end0
  exact ⟨rfl, HF.out⟩
theorem row_low {B B' : Nat} {w : World} {e : TypeId} {u : Value} {n : Nat} {xs : List Value} (h : w.ownsRow B e 1 u n xs) (hb : B' ≤ B) : w.ownsRow B' e 1 u n xs := by
  obtain ⟨h1, h2⟩ := h
  refine ⟨h1, ?_⟩
  rcases h2 with h2 | ⟨g, cap, cur, hv, hg, r⟩
  · exact .inl h2
  · exact .inr ⟨g, cap, cur, hv, Nat.le_trans hb hg, r⟩
theorem bb_builder {N B : Nat} {w : World} {b : Nat} {q u : Value} {l : Bs} (h : BB N w b q u l) (hN : B ≤ N) (hB : B ≤ b) : Lib.IsBuilderF 199 5 B b (Lib.byteCells l) w := by
  have hu : Lib.byteCells l = u8s l := rfl
  have h1 : Lib.BuilderAt 199 5 B b q (Lib.byteCells l) w := ⟨hB, u, h.cells, by rw [hu, u8s_length]; exact row_low h.row hN, h.ne⟩
  refine Lib.IsBuilderF.of ?_
  rcases h.q with e | e
  · rw [e] at h1; exact .inl h1
  · rw [e] at h1; exact .inr h1
/-- What is kept of an arena when a builder is read. -/
theorem AtV.others {w w' : World} {p : Ar.Pl} {v : Value} {S : Ar.AS} {B b : Nat} (h : Ar.AtV w p v S) (hp : p.a < B ∧ p.g < B) (hb : ¬ Ar.Fp p v b) (k1 : Below B w w') (k2 : Lib.OthersKept 5 (some b) w w') : Ar.AtV w' p v S ∧ Keeps (fun x => B ≤ x) w w' := by
  have kB : Keeps (fun x => B ≤ x) w w' := ⟨k1.os, k1.tape, k1.output, k1.size, fun x hx hf => k1.block x (by omega)⟩
  refine ⟨⟨kB.at h.cells (by omega), kB.at h.bytes (by omega), h.tch.same (fun g hg => ?_), h.va, h.vg, h.ag, h.len⟩, kB⟩
  obtain ⟨c, hc⟩ := own_typed h.tch hg
  rw [hc]
  refine k2 g _ hc (fun e => hb (by injection e with e; exact .inr (.inr (e ▸ hg)))) (fun c' fz e => ?_)
  injection e with _ e
  exact absurd e (by decide)
theorem Own_nil (B : Nat) (w : World) : w.ownsRow B 5 1 (.slice none 0 0) (rdL [] ([] : List Sp)).length (u8s (rdL [] [])) := World.ownsRow_nil _ _ _ _
def RedR (w : World) (p : Ar.Pl) (v : Value) (S : Ar.AS) (L : List Sp) (e : Ending) (w' : World) : Prop := e = .returned (.tuple #[.string (bs (rdL S.B L)), .int .i64 0]) ∧ Ar.R w p v (L.foldl readS S) w'
set_option maxRecDepth 100000 in
set_option maxHeartbeats 1000000 in
theorem read_any (w : World) (p : Ar.Pl) (v : Value) (S : Ar.AS) (tb tm tn : Nat) (E G : Tab.Prs) (a0 c0 : Int) (L : List Sp) (ar : Ar.AtV w p v S) (tab : Tab.At w tb tm tn E G) (hE : ∀ k, Tab.fnd E k ≤ 1048576) (hp : Tab.pieces E a0 c0 = some L) (hf : Fit S.B.length L) (hL : L.length ≤ 200) (hT : S.T.length + 1000 ≤ 1000000000) :
    Calls Tryz.prog 45 #[.pointer (some ⟨p.a, 0, none⟩), .pointer (some ⟨tb, 0, none⟩), .int .i64 a0, .int .i64 c0] w (RedR w p v S L) := by
  obtain ⟨w1, hw1⟩ : ∃ w1, w.alloc (.cells #[.pointer (some ⟨p.a, 0, none⟩)] 34) = w1 := ⟨_, rfl⟩
  have b1 : w1.heap[w.heap.size]? = some (.cells #[.pointer (some ⟨p.a, 0, none⟩)] 34 (0, 0)) := by rw [← hw1]; exact alloc_new _ _
  have k1 : Keeps (fun _ => False) w w1 := by rw [← hw1]; exact (Keeps.refl _ _).alloc _
  have hz1 : w1.heap.size = w.heap.size + 1 := by rw [← hw1]; simp
  have e0 := cell_of b1 0 (v := .pointer (some ⟨p.a, 0, none⟩)) rfl
  have q1 := pieces_any w1 p v S tb tm tn E G a0 c0 L (ar.old k1) (tab.old k1) hE hp hf (by omega)
  unfold PcsR at q1
  have hmf : ∀ (fn : Fn) (first cap : Array Value) (w : World), (Instr.makeFunc fn first cap).run Tryz.prog w = .ok (.func fn first cap) w := fun _ _ _ _ => rfl
  have HH := Hid.of (And.intro ar (And.intro hf (And.intro hL (And.intro hT (And.intro k1 (And.intro e0 hz1))))))
  clear ar tab hE hp hf hL hT k1 b1 hz1
  go_enter Tryz.func45, Tryz.ntmps45
  go_wp2_with fail
  refine q1.mono ?_
  rintro e w2 ⟨vs, rfl, o2, k2⟩
  obtain ⟨A, cap, rfl, -, hA, hr⟩ := o2.rd
  have e2 := keep_cell1 k2 e0
  obtain ⟨w3, hw3⟩ : ∃ w3, w2.alloc (.cells #[.pointer none, .slice none 0 0] 199) = w3 := ⟨_, rfl⟩
  have b3 : w3.heap[w2.heap.size]? = some (.cells #[.pointer none, .slice none 0 0] 199 (0, 0)) := by rw [← hw3]; exact alloc_new _ _
  have k3 : Keeps (fun _ => False) w2 w3 := by rw [← hw3]; exact (Keeps.refl _ _).alloc _
  have hz3 : w3.heap.size = w2.heap.size + 1 := by rw [← hw3]; simp
  have e3 := keep_cell1 k3 e2
  have H3 := Hid.of (And.intro k2 (And.intro k3 (And.intro hr (And.intro hA (And.intro b3 (And.intro e3 hz3))))))
  clear q1 o2 k2 hA hr b3 k3 e0 e2 e3 hz3 hw1
  go_wp2_with fail
  obtain ⟨b, hb⟩ : ∃ b, w2.heap.size = b := ⟨_, rfl⟩
  obtain ⟨N, hN⟩ : ∃ N, w3.heap.size = N := ⟨_, rfl⟩
  have HN := Hid.of (show b + 1 = N ∧ w.heap.size + 1 ≤ b ∧ w2.heap.size = b ∧ w3.heap.size = N from by
    have h1 := H3.out.1.size
    have h2 := H3.out.2.2.2.2.2.2
    have h3 := HH.out.2.2.2.2.2.2
    omega)
  have a3 : Ar.AtV w3 p v S := ((HH.out.1.old HH.out.2.2.2.2.1).old H3.out.1).old H3.out.2.1
  have q3 := each_any 126 #[.pointer (some ⟨w.heap.size, 0, none⟩), .pointer (some ⟨b, 0, none⟩)] (fun args w => by kernel_rfl) w3 A cap L.length L
    (fun i wr => ∃ v' q u, Ar.AtV wr p v' (accS readS S L i) ∧ BB N wr b q u (rdL S.B (L.take i)) ∧ Keeps (fun x => Ar.Fp p v x ∨ x = b) w3 wr ∧ ∀ x, Ar.Fp p v' x → Ar.Fp p v x ∨ N ≤ x)
    ⟨v, .pointer none, .slice none 0 0, a3, ⟨by rw [← hb]; exact H3.out.2.2.2.2.1, Own_nil _ _, by simp [Value.ownBlock], .inl rfl⟩, Keeps.refl _ _, fun x hx => .inl hx⟩ rfl
    (fun j wr hI => by
      obtain ⟨v', q, u, -, -, k', -⟩ := hI
      refine ((H3.out.2.2.1).old H3.out.2.1).keep k' (fun ad ha _ hx => ?_)
      have h1 := H3.out.2.2.2.1 ad ha
      rcases hx with hx | hx
      · have h2 := (HH.out.1.old HH.out.2.2.2.2.1).lt hx; omega
      · omega)
    (by have := HH.out.2.2.1; omega) (fun i hi => by have := dn_le HH.out.2.1 HH.out.1.len (by have := HH.out.2.2.1; omega) i hi; have := HH.out.2.2.1; omega)
    (fun j wr hj hI => by
      obtain ⟨v', q, u, a', bb, k', g'⟩ := hI
      obtain ⟨a, n, h1, h2, h3, h4, h5⟩ := HH.out.2.1.at (j := j) hj
      obtain ⟨z1, z2⟩ := read_len (S := S) (L := L) j (by omega)
      have hlen := rdL_len HH.out.2.1 rfl j (by omega)
      have hdl := dn_le HH.out.2.1 HH.out.1.len (by have := HH.out.2.2.1; omega) j (by omega)
      have hlt := HH.out.2.2.1
      have hT := HH.out.2.2.2.1
      have hSl := HH.out.1.len
      have hag : p.a < w.heap.size ∧ p.g < w.heap.size := ⟨HH.out.1.lt (.inl rfl), HH.out.1.lt (.inr (.inl rfl))⟩
      have hN1 := HN.out
      have hcell : wr.cell? ⟨w.heap.size, 0, none⟩ = some (.pointer (some ⟨p.a, 0, none⟩)) := keep_cell k' (fun hx => by rcases hx with hx | hx; (have := HH.out.1.lt hx; omega); omega) H3.out.2.2.2.2.2.1
      have hwr := k'.size
      have q := read1_any wr p v' (accS readS S L j) w.heap.size N b q u (rdL S.B (L.take j)) a n (L.getD j ⟨0, 0, false⟩).wrote (dn L j) a' bb (by omega) (fun hx => by rcases g' _ hx with q | q; (have := HH.out.1.lt q; omega); omega) (by omega) hcell (by rw [z1]; exact h3) (by omega) (by omega)
      rw [h1, h2]
      refine q.mono ?_
      rintro e w' ⟨rfl, v2, u2, a2, b2, k2, g2⟩
      refine ⟨rfl, v2, self b, u2, ?_, ?_, k'.trans' k2 (fun x hx hl => ?_), fun x hx => ?_⟩
      · rw [accS_succ _ _ _ hj]; unfold readS; rw [h4, h5]; exact a2
      · rw [rdL_succ _ _ hj]; unfold rdS; rw [h4, h5, ← z1]; rw [z1] at b2 ⊢; exact b2
      · rcases hx with hx | hx | hx
        · rcases g' x hx with q | q
          · exact .inl q
          · omega
        · exact .inr hx
        · have := (row_lt bb.row hx).1; omega
      · rcases g2 x hx with q | q
        · exact g' x q
        · exact .inr (by omega))
  rw [accS_all _ _ rfl, List.take_length] at q3
  rw [hb]
  refine q3.mono ?_
  rintro e w4 ⟨rfl, v4, q4, u4, a4, b4, k4, g4⟩
  have hbu := bb_builder (B := w.heap.size) b4 (by have := HN.out; omega) (by have := HN.out; omega)
  have q5 := Tryz.bstring w.heap.size b _ w4 hbu (by have h1 := k4.size; have := HN.out; omega)
  have H4 := Hid.of (And.intro a4 (And.intro k4 (And.intro g4 (show ¬ Ar.Fp p v4 b from fun hx => by
    have h1 := HN.out
    rcases g4 _ hx with q | q
    · have := HH.out.1.lt q; omega
    · omega))))
  clear q3 a4 b4 k4 g4 hbu hb hN hw3
  go_wp2_with fail
  refine q5.mono ?_
  rintro e w5 ⟨rfl, -, k5, ok5⟩
  have HF := Hid.of (show Ar.R w p v (L.foldl readS S) w5 from by
    obtain ⟨a4, k4, g4, nb⟩ := H4.out
    obtain ⟨a5, kB⟩ := AtV.others (B := w.heap.size) a4 ⟨HH.out.1.lt (.inl rfl), HH.out.1.lt (.inr (.inl rfl))⟩ nb k5 ok5
    have h1 := HN.out
    refine ⟨v4, a5, ((((HH.out.2.2.2.2.1.trans H3.out.1).trans H3.out.2.1).mono (G := Ar.Fp p v) (fun _ _ x => x.elim)).trans' k4 (fun x hx hl => ?_)).trans' kB (fun x hx hl => ?_), fun x hx => ?_⟩
    · rcases hx with q | q
      · exact q
      · omega
    · omega
    · rcases g4 x hx with q | q
      · exact .inl q
      · exact .inr (by omega))
  clear q5 k5 ok5
  go_wp2
  go_ret2
  exact ⟨rfl, HF.out⟩
theorem fold_read (S : Ar.AS) (L : List Sp) : (L.foldl readS S).B = S.B ∧ (L.foldl readS S).T.length ≤ S.T.length + L.length := by
  have := read_len (S := S) (L := L) L.length (Nat.le_refl _)
  rw [accS_all _ _ rfl] at this; exact this
set_option maxRecDepth 100000 in
set_option maxHeartbeats 1000000 in
theorem copy_any (w : World) (p : Ar.Pl) (v : Value) (S : Ar.AS) (tb tm tn : Nat) (E G : Tab.Prs) (to fr : Int) (n : Nat) (Lt Lf : List Sp) (ar : Ar.AtV w p v S) (tab : Tab.At w tb tm tn E G) (off : ¬ Ar.Fp p v tb ∧ ¬ Ar.Fp p v tm ∧ ¬ Ar.Fp p v tn) (hE : ∀ k, Tab.fnd E k ≤ 1048576) (hp : Tab.pieces E to (n : Int) = some Lt) (hp2 : Tab.pieces E fr (n : Int) = some Lf) (hf : Fit S.B.length Lt) (hf2 : Fit S.B.length Lf) (hs : dn Lt Lt.length = (n : Int)) (hs2 : dn Lf Lf.length = (n : Int)) (hL : Lt.length ≤ 200) (hL2 : Lf.length ≤ 200) (hT : S.T.length + 2000 ≤ 1000000000) (hn : n ≤ 100000000) :
    Calls Tryz.prog 160 #[.pointer (some ⟨p.a, 0, none⟩), .pointer (some ⟨tb, 0, none⟩), .int .i64 to, .int .i64 fr, .int .i64 n] w (ZroR w p v (writeS (Lf.foldl readS S) (rdL S.B Lf) Lt Lt.length)) := by
  have q1 := pieces_any w p v S tb tm tn E G to n Lt ar tab hE hp hf (by omega)
  unfold PcsR at q1
  have q2 := fun wx (k : Keeps (fun _ => False) w wx) => read_any wx p v S tb tm tn E G fr n Lf (ar.old k) (tab.old k) hE hp2 hf2 hL2 (by omega)
  unfold RedR at q2
  have hlen := rdL_len hf2 rfl Lf.length (Nat.le_refl _)
  rw [List.take_length, hs2] at hlen
  have hln : (rdL S.B Lf).length = n := by omega
  have hdn := dn_le hf2 ar.len (by omega) Lf.length (Nat.le_refl _)
  obtain ⟨fb, fT⟩ := fold_read S Lf
  have q3 := fun wx v1 (k : Keeps (Ar.Fp p v) w wx) (a1 : Ar.AtV wx p v1 (Lf.foldl readS S)) => write_any wx p v1 (Lf.foldl readS S) tb tm tn E G to (rdL S.B Lf) Lt a1 (tab.keep k off.1 off.2.1 off.2.2) hE (by rw [hln]; exact hp) (by rw [fb]; exact hf) (by rw [hln]; exact hs) (by omega) (by omega) (by omega)
  unfold ZroR at q3
  generalize rdL S.B Lf = D at *
  generalize Lf.foldl readS S = S2 at *
  generalize Lt.length = K at *
  clear ar tab off hE hp hp2 hf hf2 hs hs2 hL hL2 hT hlen hdn
  go_enter Tryz.func160, Tryz.ntmps160
  go_wp2_with fail
  refine q1.mono ?_
  rintro e w1 ⟨vs, rfl, o1, k1⟩
  have q4 := q2 w1 k1
  have HK := Hid.of k1
  clear q1 q2 o1 k1
  go_wp2_with fail
  refine q4.mono ?_
  rintro e w2 ⟨rfl, v2, a2, k2, f2⟩
  have q5 := q3 w2 v2 ((HK.out.mono (fun _ _ x => x.elim)).trans k2) a2
  have H2 := Hid.of (And.intro k2 f2)
  clear q3 q4 a2 k2 f2
  go_wp2_with fail
  refine q5.mono ?_
  rintro e w3 ⟨rfl, v3, a3, k3, f3⟩
  have HF := Hid.of (show Ar.R w p v (writeS S2 D Lt K) w3 from by
    obtain ⟨k2, f2⟩ := H2.out
    refine ⟨v3, a3, ((HK.out.mono (fun _ _ x => x.elim)).trans k2).trans' k3 (fun x hx hl => ?_), fun x hx => ?_⟩
    · rcases f2 x hx with h | h
      · exact h
      · have := HK.out.size; omega
    · rcases f3 x hx with h | h
      · rcases f2 x h with q | q
        · exact .inl q
        · exact .inr (Nat.le_trans HK.out.size q)
      · exact .inr (Nat.le_trans HK.out.size (Nat.le_trans k2.size h)))
  clear q5 a3 k3 f3
  go_wp2
  go_ret
  exact ⟨rfl, HF.out⟩
end Vw
end Go.Proofs.YtnheibcjcgacpaaGreatDoor
