/- The document's pool (garthref08): New, turn, Grant, Shrink. -/
import Derived.Test.YtcjdejhjbelggaaDoorPoE
set_option linter.unusedVariables false
set_option linter.unusedSimpArgs false
namespace Go.Proofs.YtcjdejhjbelggaaDoor
open Go.RowKit Go.ChangeMaps
namespace Po
def RNewR (w : World) (n : Nat) (e : Ending) (w' : World) : Prop := ∃ q u, e = .returned (.tuple #[.pointer (some ⟨q, 0, none⟩), .int .i64 0]) ∧ RAt w' q u (List.replicate n (-1)) ∧ (∀ x, RFp q u x → w.heap.size ≤ x) ∧ Keeps (fun _ => False) w w'
theorem fill_step (j n : Nat) (h : j < n) : (List.replicate j (-1 : Int) ++ List.replicate (n - j) 0).set j (-1) = List.replicate (j + 1) (-1) ++ List.replicate (n - (j + 1)) 0 := by
  apply List.ext_getElem?
  intro i
  rw [List.getElem?_set]
  simp only [List.getElem?_append, List.length_replicate, List.length_append, List.getElem?_replicate]
  repeat' split
  all_goals first | rfl | omega
set_option maxRecDepth 100000 in
set_option maxHeartbeats 1000000 in
theorem rnew_any (w : World) (n : Nat) (h1 : 1 ≤ n) (h2 : n ≤ 32) :
    Calls Tryd.prog 18 #[.int .i64 n] w (RNewR w n) := by
  have d1 : decide ((n : Int) < 1) = false := by simp; omega
  have d2 : decide (32 < (n : Int)) = false := by simp; omega
  have mk := fun w => make_ints w n (by omega)
  have o1 := own_made_i w n (by omega)
  obtain ⟨w1, hw1⟩ : ∃ w1, w.alloc (.cells (ints (List.replicate n 0)).toArray 3) = w1 := ⟨_, rfl⟩
  have k1 : Keeps (fun _ => False) w w1 := by rw [← hw1]; exact (Keeps.refl _ _).alloc _
  rw [hw1] at o1
  have s1 : w1.heap.size = w.heap.size + 1 := by rw [← hw1]; simp
  obtain ⟨w2, hw2⟩ : ∃ w2, w1.alloc (.cells #[.slice (some ⟨w.heap.size, 0, none⟩) n n] 84) = w2 := ⟨_, rfl⟩
  have k2 : Keeps (fun _ => False) w1 w2 := by rw [← hw2]; exact (Keeps.refl _ _).alloc _
  have c2 : w2.heap[w1.heap.size]? = some (.cells #[.slice (some ⟨w.heap.size, 0, none⟩) n n] 84 (0, 0)) := by rw [← hw2]; exact alloc_new _ _
  have o2 := o1.keep k2 (fun _ _ x => x)
  have HC := Hid.of s1
  clear s1 o1
  go_enter Tryd.func18, Tryd.ntmps18
  go_wp2
  obtain ⟨q, hq⟩ : ∃ q, w1.heap.size = q := ⟨_, rfl⟩
  obtain ⟨g, hg⟩ : ∃ g, w.heap.size = g := ⟨_, rfl⟩
  rw [hq, hg] at c2
  rw [hg] at o2
  try rw [hq]
  try rw [hg]
  have hqg : q ≠ g := by rw [← hq, ← hg, HC.out]; omega
  have HM := Hid.of (And.intro hq hg)
  have K2 := k1.trans k2
  clear mk hw1 hw2 k1 k2 hq hg
  go_loopw [5] (fun i wr => ∃ j : Nat, j ≤ n ∧ i = .int .i64 j ∧ Own wr 3 1 (.slice (some ⟨g, 0, none⟩) n n) n (ints (List.replicate j (-1) ++ List.replicate (n - j) 0)) ∧ wr.heap[q]? = some (.cells #[.slice (some ⟨g, 0, none⟩) n n] 84 (0, 0)) ∧ Keeps (fun _ => False) w wr) (fun i _ => n - (intOf i).toNat)
  case atStart => exact ⟨0, Nat.zero_le _, rfl, o2, c2, K2⟩
  case round =>
    clear o2 c2 K2
    obtain ⟨j, hj, rfl, hO, hc, hK⟩ := hrel
    have c0 := cell_of (v := .slice (some ⟨g, 0, none⟩) n n) hc 0 rfl
    by_cases hlt : j < n
    · have fg := own_free hO (g := g) rfl j
      obtain ⟨g', cap', hv, hg', hcell⟩ := int_at hO hlt
      obtain ⟨rfl, -⟩ : g = g' ∧ True := by injection hg' with e; exact ⟨e, trivial⟩
      have hO1 := own_set hO (g := g) rfl j (.int .i64 (-1))
      rw [← ints_set, fill_step j n hlt] at hO1
      have hK1 : Keeps (fun _ => False) w (wr.setCell ⟨g, j, none⟩ (.int .i64 (-1))) := hK.setCell _ _ (.inr (by rw [← HM.out.2]; exact Nat.le_refl _))
      have hc1 : (wr.setCell ⟨g, j, none⟩ (.int .i64 (-1))).heap[q]? = some (.cells #[.slice (some ⟨g, 0, none⟩) n n] 84 (0, 0)) := by rw [set_other _ _ (by exact hqg)]; exact hc
      obtain ⟨w4, hw4⟩ : ∃ w4, wr.setCell ⟨g, j, none⟩ (.int .i64 (-1)) = w4 := ⟨_, rfl⟩
      rw [hw4] at hO1 hK1 hc1
      have HF := Hid.of (And.intro hO1 (And.intro hc1 hK1))
      have hlti : (j : Int) < (n : Int) := by omega
      clear hO hc hK hv hg' hO1 hK1 hc1
      go_wp2
      go_roundw
      case rel => exact ⟨j + 1, by omega, by go_num, HF.out.1, HF.out.2.1, HF.out.2.2⟩
      case measure => simp [intOf]; omega
    · obtain rfl : j = n := by omega
      have hl1 : ¬ ((j : Int) < (j : Int)) := by omega
      have HF := Hid.of (And.intro hO (And.intro hc hK))
      clear hO hc hK
      go_wp2
      go_ret2
      obtain ⟨hO, hc, hK⟩ := HF.out
      rw [Nat.sub_self, List.replicate_zero, List.append_nil] at hO
      have hO' : Own wr 3 1 (.slice (some ⟨g, 0, none⟩) j j) (List.replicate j (-1 : Int)).length (ints (List.replicate j (-1))) := by rw [List.length_replicate]; exact hO
      refine ⟨q, _, rfl, ⟨hc, hO', ?_, by rw [List.length_replicate]; exact h2⟩, fun x hx => ?_, hK⟩
      · intro e
        have e' : some g = some q := e
        injection e' with e'
        exact hqg e'.symm
      · obtain ⟨m1, m2⟩ := HM.out
        have m3 := HC.out
        rcases hx with rfl | hx
        · omega
        · have hx' : some g = some x := hx
          injection hx' with hx'
          omega
set_option maxRecDepth 100000 in
set_option maxHeartbeats 1000000 in
theorem rnew_bad (w : World) (n : Int) (hn : n < 1 ∨ 32 < n) :
    Calls Tryd.prog 18 #[.int .i64 n] w fun e w' => e = .returned (.tuple #[.pointer none, .int .i64 12]) ∧ w = w' := by
  rcases hn with h | h
  · have d1 : decide (n < 1) = true := by simp; omega
    go_enter Tryd.func18, Tryd.ntmps18
    go_wp2
    go_ret2
    exact ⟨rfl, rfl⟩
  · have d1 : decide (n < 1) = false := by simp; omega
    have d2 : decide (32 < n) = true := by simp; omega
    go_enter Tryd.func18, Tryd.ntmps18
    go_wp2
    go_ret2
    exact ⟨rfl, rfl⟩
/-- What a call that turns the document's pool leaves. -/
def RTurn1 (w : World) (q : Nat) (u : Value) (M : List Nat) (Of' : List Int) (e : Ending) (w' : World) : Prop :=
  ∃ r, e = .returned r ∧ OutR 3 1 w.heap.size w' r M.length (ints (zs M)) ∧ RAt w' q u Of' ∧ Keeps (RFp q u) w w'
theorem setAll_snoc (l : List Nat) (c : Nat) (o : Int) (Of : List Int) : setAll (l ++ [c]) o Of = (setAll l o Of).set c o := by unfold setAll; rw [List.foldl_append]; rfl
set_option maxRecDepth 100000 in
set_option maxHeartbeats 2000000 in
theorem turn_any (w : World) (q : Nat) (u : Value) (Of : List Int) (from' to : Int) (k most : Nat) (h : RAt w q u Of) (hm : most ≤ 1000) (hk : k ≤ 1000) :
    Calls Tryd.prog 64 #[.pointer (some ⟨q, 0, none⟩), .int .i64 from', .int .i64 k, .int .i64 most, .int .i64 to] w (RTurn1 w q u (some' Of from' k most) (setAll (some' Of from' k most) to Of)) := by
  have qw := rwindow_any w q u Of from' h
  have hwl := win_len Of from'
  have hle := h.len
  obtain ⟨L, hL⟩ : ∃ L, win Of from' = L := ⟨_, rfl⟩
  have HLL := Hid.of (fun c (hc : c ∈ L) => lt_of_win (Of := Of) (o := from') (by rw [hL]; exact hc))
  have HS : Hid (some' Of from' k most = (L.drop k).take most) := Hid.of (by unfold some'; rw [hL])
  rw [hL] at qw hwl
  generalize some' Of from' k most = M at *
  have hl32 : L.length ≤ 32 := by omega
  have HH := Hid.of h
  clear hL hwl hle h
  go_enter Tryd.func64, Tryd.ntmps64
  go_wp2_with fail
  refine qw.mono ?_
  rintro e w1 ⟨v, rfl, o1, k1⟩
  obtain ⟨Al, capl, rfl, -, -, rl⟩ := o1.rd
  have a1 := HH.out.old k1
  have HO1 := Hid.of o1
  have HK1 := Hid.of k1
  clear qw o1 k1
  go_wp2
  go_loopw [11, 13] (fun x i wr => ∃ (z j : Nat), z ≤ 1100 ∧ i = .int .i64 z ∧ Hid (z = k + j) ∧ j ≤ most ∧ (k ≤ L.length → z ≤ L.length) ∧ OutR 3 1 w1.heap.size wr x j (ints (zs ((L.drop k).take j))) ∧ RAt wr q u (setAll ((L.drop k).take j) to Of) ∧ Keeps (RFp q u) w1 wr) (fun _ i _ => 2000 - (intOf i).toNat)
  case atStart => exact ⟨k, 0, by omega, rfl, Hid.of rfl, Nat.zero_le _, fun h => h, OutR.nil _ _ _ _, a1, Keeps.refl _ _⟩
  case round =>
    clear a1
    obtain ⟨z, j, hz, rfl, HZ, hj, hzl, hO, hA, hK⟩ := hrel
    obtain ⟨A', cap', rfl, -, -, -⟩ := hO.1.shape
    have hsz : w.heap.size ≤ wr.heap.size := Nat.le_trans HK1.out.size hK.size
    have rl' : Rd wr Al (ints (zs L)) := rl.keep hK (fun ad ea _ hx => by
      have h1 := HO1.out.2 ad.block (by rw [ea]; rfl)
      have h2 := HH.out.lt hx
      omega)
    by_cases hlt : z < L.length ∧ j < most
    · obtain ⟨h1, h2⟩ := hlt
      obtain ⟨b, oo, ss, rfl, he⟩ := rd_int rl' z (by rw [zs_length]; exact h1)
      have eg : (zs L).getD z 0 = ((L[z] : Nat) : Int) := by
        unfold zs
        rw [List.getD_eq_getElem?_getD, List.getElem?_map, List.getElem?_eq_getElem h1]; rfl
      rw [eg] at he
      have hcl := HLL.out (L[z]) (List.getElem_mem h1)
      have HT : Hid ((L.drop k).take (j + 1) = (L.drop k).take j ++ [L[z]]) := Hid.of (by
        have hd : j < (L.drop k).length := by rw [List.length_drop]; have := HZ.out; omega
        rw [List.take_succ_eq_append_getElem hd, List.getElem_drop]
        have e := HZ.out
        subst e; rfl)
      obtain ⟨c, hc⟩ : ∃ c, L[z] = c := ⟨_, rfl⟩
      rw [hc] at he hcl HT
      obtain ⟨n, hn⟩ : ∃ n, Of.length = n := ⟨_, rfl⟩
      have hrow := hA.row
      have hqc := hA.cells
      rw [setAll_len, hn] at hrow
      rw [hn] at hcl
      obtain ⟨g, capu, hu, hg, hcell⟩ := int_at hrow hcl
      rw [hu] at hqc
      have c0 := cell_of (v := .slice (some ⟨g, 0, none⟩) n capu) hqc 0 rfl
      have fg := own_free hrow hg c
      have hO1 := own_set hrow hg c (.int .i64 to)
      rw [← ints_set, ← setAll_snoc, ← HT.out] at hO1
      have kset1 : Keeps (fun x => x = g) wr (wr.setCell ⟨g, c, none⟩ (.int .i64 to)) := (Keeps.refl _ _).setCell _ _ (.inl rfl)
      have hne : ¬ q = g := fun e => hA.ne (by rw [hg, e])
      have hqc1 := kset1.at hA.cells hne
      have hOut := hO.1.keep kset1 (fun g' hg' e => by
        have h1 := hO.2 g' hg'
        have h2 := HH.out.lt (x := g') (.inr (by rw [hg, e]))
        have h3 := HK1.out.size
        omega)
      have rl1 := rl'.keep kset1 (fun ad ea _ hx => by
        have h1 := HO1.out.2 ad.block (by rw [ea]; rfl)
        have h2 := HH.out.lt (x := ad.block) (.inr (by rw [hg, ← hx]))
        omega)
      obtain ⟨w4, hw4⟩ : ∃ w4, wr.setCell ⟨g, c, none⟩ (.int .i64 to) = w4 := ⟨_, rfl⟩
      rw [hw4] at hO1 kset1 hqc1 hOut rl1
      have he4 := he
      have HA4 : Hid (RAt w4 q u (setAll ((L.drop k).take (j + 1)) to Of)) := Hid.of ⟨hqc1, by rw [setAll_len, hn]; exact hO1, hA.ne, by rw [setAll_len]; exact HH.out.len⟩
      have HK4 : Hid (Keeps (RFp q u) w1 w4) := Hid.of (hK.trans (kset1.mono (fun x _ hx => .inr (by rw [hx]; exact hg))))
      have HO4 : Hid (OutR 3 1 w1.heap.size w4 (.slice A' j cap') j (ints (zs ((L.drop k).take j)))) := Hid.of ⟨hOut, hO.2⟩
      obtain ⟨ad2, ha2, he5⟩ := rl1 z (.int .i64 (c : Int)) (by rw [ints_get _ z (by rw [zs_length]; exact h1), eg, hc])
      obtain rfl : (⟨b, oo, ss⟩ : Addr) = ad2 := Option.some.inj ha2
      have hz4 : w1.heap.size ≤ w4.heap.size := HK4.out.size
      have h1i : decide (z < L.length) = true := by simpa using h1
      have h1j : (z : Int) < (L.length : Int) := by omega
      have h2i : decide (j < most) = true := by simpa using h2
      have hci : (c : Int) < (n : Int) := by omega
      have o4 := HO4.out.1
      have HU := Hid.of hu
      clear hO hA hK rl' rl1 hrow hqc hu hg hO1 kset1 hne hqc1 hOut hc hn eg ha2 hcl hsz
      go_wp2
      go_region
      have o4d : Own w4.drew 3 1 (.slice A' j cap') j (ints (zs ((L.drop k).take j))) := o4
      go_wp2_with (at_builtin; refine wpList_app1 slInts w4.drew rfl _ _ rfl (.slice A' j cap') j (ints (zs ((L.drop k).take j))) rfl o4d [.int .i64 (c : Int)] rfl rfl (by simp [Value.oneCell']) (by unfold maxLen; omega) (by omega) ?_; intro v5 w5 o5 k5 at5; have HF : Hid (OutR 3 1 w1.heap.size w5 v5 (j + 1) (ints (zs ((L.drop k).take (j + 1)))) ∧ RAt w5 q u (setAll ((L.drop k).take (j + 1)) to Of) ∧ Keeps (RFp q u) w1 w5) := Hid.of (by
          have k5' := k5.of_drew
          refine ⟨by rw [HT.out, zs_append, ints_append]; exact HO4.out.app (w0 := w4.drew) o5 at5 hz4, HA4.out.keep k5' (fun x hx hg => by have := HO4.out.2 x hg; have := HH.out.lt hx; have := HK1.out.size; omega), HK4.out.trans' k5' (fun x hx hl => by have h1 := HO4.out.2 x hx; omega)⟩); clear o5 k5 at5)
      go_roundw
      case rel => exact ⟨z + 1, j + 1, by omega, by go_num, Hid.of (by rw [HZ.out]; omega), by omega, fun h => by omega, HF.out.1, HF.out.2.1, HF.out.2.2⟩
      case measure => simp [intOf]; omega
    · have hend : ∀ z j, z = k + j → ¬ (z < L.length ∧ j < most) → j ≤ most → (L.drop k).take j = (L.drop k).take most := by
        intro z j e h hj
        by_cases hjm : j < most
        · rw [List.take_of_length_le (by rw [List.length_drop]; omega), List.take_of_length_le (by rw [List.length_drop]; omega)]
        · rw [show j = most by omega]
      have HE := Hid.of (hend z j HZ.out hlt hj)
      have HF := Hid.of (And.intro hO (And.intro hA hK))
      clear hend hO hA hK rl' hsz
      by_cases h1 : z < L.length
      · have h2 : ¬ j < most := fun h => hlt ⟨h1, h⟩
        have h1i : decide (z < L.length) = true := by simpa using h1
        have h2i : decide (j < most) = false := by simpa using h2
        clear hlt h2
        go_wp2
        go_ret
        obtain ⟨hO, hA, hK⟩ := HF.out
        rw [HE.out, ← HS.out] at hO hA
        have hl : j = M.length := by have := hO.1.1; rw [ints_length, zs_length] at this; omega
        refine ⟨_, rfl, ?_, hA, (HK1.out.mono (fun _ _ x => x.elim)).trans hK⟩
        rw [← hl]
        exact hO.low HK1.out.size
      · have h1i : decide (z < L.length) = false := by simpa using h1
        clear hlt
        go_wp2
        go_ret
        obtain ⟨hO, hA, hK⟩ := HF.out
        rw [HE.out, ← HS.out] at hO hA
        have hl : j = M.length := by have := hO.1.1; rw [ints_length, zs_length] at this; omega
        refine ⟨_, rfl, ?_, hA, (HK1.out.mono (fun _ _ x => x.elim)).trans hK⟩
        rw [← hl]
        exact hO.low HK1.out.size
/-- .. and its answer has an error's number. -/
def RTurnR (w : World) (q : Nat) (u : Value) (M : List Nat) (E : Int) (Of' : List Int) (e : Ending) (w' : World) : Prop :=
  ∃ r, e = .returned (.tuple #[r, .int .i64 E]) ∧ OutR 3 1 w.heap.size w' r M.length (ints (zs M)) ∧ RAt w' q u Of' ∧ Keeps (RFp q u) w w'
theorem bad_cases (o k : Int) (h : ¬ (0 ≤ o ∧ o < 8 ∧ 0 ≤ k)) : o < 0 ∨ (0 ≤ o ∧ 7 < o) ∨ (0 ≤ o ∧ o ≤ 7 ∧ k < 0) := by omega
set_option maxRecDepth 100000 in
set_option maxHeartbeats 1000000 in
theorem rgrant_any (w : World) (q : Nat) (u : Value) (Of : List Int) (o k : Int) (h : RAt w q u Of) :
    Calls Tryd.prog 43 #[.pointer (some ⟨q, 0, none⟩), .int .i64 o, .int .i64 k] w (RTurnR w q u (grantM Of o k) (grantE Of o k) (grantO Of o k)) := by
  have hwl := win_len Of (-1)
  have hle := h.len
  by_cases hn : 0 ≤ o ∧ o < 8 ∧ 0 ≤ k
  · have qw := rwindow_any w q u Of (-1) h
    have d1 : decide (o < 0) = false := by simp; omega
    have d2 : decide (7 < o) = false := by simp; omega
    have d3 : decide (k < 0) = false := by simp; omega
    unfold grantM grantE grantO
    rw [if_pos hn, if_pos hn, if_pos hn]
    by_cases hk : (win Of (-1)).length < k
    · rw [if_pos hk, if_pos hk, if_pos hk]
      have d4 : decide (((win Of (-1)).length : Int) < k) = true := by simpa using hk
      have HH := Hid.of h
      clear h hn hk hwl hle
      go_enter Tryd.func43, Tryd.ntmps43
      go_wp2_with fail
      refine qw.mono ?_
      rintro e w1 ⟨r, rfl, o1, k1⟩
      obtain ⟨A1, c1, rfl, -, -, -⟩ := o1.rd
      have HK := Hid.of k1
      clear o1 k1 qw
      go_wp2
      go_ret2
      exact ⟨_, rfl, OutR.nil _ _ _ _, HH.out.old HK.out, HK.out.mono (fun _ _ x => x.elim)⟩
    · rw [if_neg hk, if_neg hk, if_neg hk]
      obtain ⟨k, rfl⟩ : ∃ n : Nat, k = n := ⟨k.toNat, by omega⟩
      rw [Int.toNat_natCast]
      have d4 : decide ((win Of (-1)).length < k) = false := by simp; omega
      have qt := fun w1 (k1 : Keeps (fun _ => False) w w1) => turn_any w1 q u Of (-1) o 0 k (h.old k1) (by omega) (by omega)
      have e1 : some' Of (-1) 0 k = more Of k := by unfold some' more; rw [List.drop_zero]
      rw [e1] at qt
      have e2 : setAll (more Of k) o Of = granted Of o k := rfl
      rw [e2] at qt
      generalize granted Of o k = Of' at *
      generalize more Of k = M at *
      clear h hn hk hwl hle e1 e2
      go_enter Tryd.func43, Tryd.ntmps43
      go_wp2_with fail
      refine qw.mono ?_
      rintro e w1 ⟨r, rfl, o1, k1⟩
      obtain ⟨A1, c1, rfl, -, -, -⟩ := o1.rd
      have q2 := qt w1 k1
      have HK := Hid.of k1
      clear o1 k1 qw qt
      go_wp2_with fail
      refine q2.mono ?_
      rintro e w2 ⟨r2, rfl, o2, a2, k2⟩
      have HF := Hid.of (And.intro o2 (And.intro a2 k2))
      clear q2 o2 a2 k2
      go_wp2
      go_ret2
      exact ⟨_, rfl, HF.out.1.low HK.out.size, HF.out.2.1, (HK.out.mono (fun _ _ x => x.elim)).trans HF.out.2.2⟩
  · unfold grantM grantE grantO
    rw [if_neg hn, if_neg hn, if_neg hn]
    have HH := Hid.of h
    have hb := bad_cases o k hn
    clear h hn hwl hle
    rcases hb with h1 | ⟨h1, h2⟩ | ⟨h1, h2, h3⟩
    · have d1 : decide (o < 0) = true := by simpa using h1
      go_enter Tryd.func43, Tryd.ntmps43
      go_wp2
      go_ret2
      exact ⟨_, rfl, OutR.nil _ _ _ _, HH.out, Keeps.refl _ _⟩
    · have d1 : decide (o < 0) = false := by simp; omega
      have d2 : decide (7 < o) = true := by simpa using h2
      go_enter Tryd.func43, Tryd.ntmps43
      go_wp2
      go_ret2
      exact ⟨_, rfl, OutR.nil _ _ _ _, HH.out, Keeps.refl _ _⟩
    · have d1 : decide (o < 0) = false := by simp; omega
      have d2 : decide (7 < o) = false := by simp; omega
      have d3 : decide (k < 0) = true := by simpa using h3
      go_enter Tryd.func43, Tryd.ntmps43
      go_wp2
      go_ret2
      exact ⟨_, rfl, OutR.nil _ _ _ _, HH.out, Keeps.refl _ _⟩
set_option maxRecDepth 100000 in
set_option maxHeartbeats 1000000 in
theorem rshrink_any (w : World) (q : Nat) (u : Value) (Of : List Int) (o k : Int) (h : RAt w q u Of) :
    Calls Tryd.prog 44 #[.pointer (some ⟨q, 0, none⟩), .int .i64 o, .int .i64 k] w (RTurnR w q u (shrinkM Of o k) (shrinkE Of o k) (shrinkO Of o k)) := by
  have hwl := win_len Of o
  have hle := h.len
  by_cases hn : 0 ≤ o ∧ o < 8 ∧ 0 ≤ k
  · have qw := rwindow_any w q u Of o h
    have d1 : decide (o < 0) = false := by simp; omega
    have d2 : decide (7 < o) = false := by simp; omega
    have d3 : decide (k < 0) = false := by simp; omega
    unfold shrinkM shrinkE shrinkO
    rw [if_pos hn, if_pos hn, if_pos hn]
    by_cases hk : (win Of o).length < k
    · rw [if_pos hk, if_pos hk, if_pos hk]
      have d4 : decide (((win Of o).length : Int) < k) = true := by simpa using hk
      have HH := Hid.of h
      clear h hn hk hwl hle
      go_enter Tryd.func44, Tryd.ntmps44
      go_wp2_with fail
      refine qw.mono ?_
      rintro e w1 ⟨r, rfl, o1, k1⟩
      obtain ⟨A1, c1, rfl, -, -, -⟩ := o1.rd
      have HK := Hid.of k1
      clear o1 k1 qw
      go_wp2
      go_ret2
      exact ⟨_, rfl, OutR.nil _ _ _ _, HH.out.old HK.out, HK.out.mono (fun _ _ x => x.elim)⟩
    · rw [if_neg hk, if_neg hk, if_neg hk]
      obtain ⟨k, rfl⟩ : ∃ n : Nat, k = n := ⟨k.toNat, by omega⟩
      rw [Int.toNat_natCast]
      have d4 : decide ((win Of o).length < k) = false := by simp; omega
      have qt := fun w1 (k1 : Keeps (fun _ => False) w w1) => turn_any w1 q u Of o (-1) k 99 (h.old k1) (by omega) (by omega)
      have e1 : some' Of o k 99 = gone Of o k := by unfold some' gone; rw [List.take_of_length_le]; rw [List.length_drop]; omega
      rw [e1] at qt
      have e2 : setAll (gone Of o k) (-1) Of = shrunk Of o k := rfl
      rw [e2] at qt
      generalize shrunk Of o k = Of' at *
      generalize gone Of o k = M at *
      clear h hn hk hwl hle e1 e2
      go_enter Tryd.func44, Tryd.ntmps44
      go_wp2_with fail
      refine qw.mono ?_
      rintro e w1 ⟨r, rfl, o1, k1⟩
      obtain ⟨A1, c1, rfl, -, -, -⟩ := o1.rd
      have q2 := qt w1 k1
      have HK := Hid.of k1
      clear o1 k1 qw qt
      go_wp2_with fail
      refine q2.mono ?_
      rintro e w2 ⟨r2, rfl, o2, a2, k2⟩
      have HF := Hid.of (And.intro o2 (And.intro a2 k2))
      clear q2 o2 a2 k2
      go_wp2
      go_ret2
      exact ⟨_, rfl, HF.out.1.low HK.out.size, HF.out.2.1, (HK.out.mono (fun _ _ x => x.elim)).trans HF.out.2.2⟩
  · unfold shrinkM shrinkE shrinkO
    rw [if_neg hn, if_neg hn, if_neg hn]
    have HH := Hid.of h
    have hb := bad_cases o k hn
    clear h hn hwl hle
    rcases hb with h1 | ⟨h1, h2⟩ | ⟨h1, h2, h3⟩
    · have d1 : decide (o < 0) = true := by simpa using h1
      go_enter Tryd.func44, Tryd.ntmps44
      go_wp2
      go_ret2
      exact ⟨_, rfl, OutR.nil _ _ _ _, HH.out, Keeps.refl _ _⟩
    · have d1 : decide (o < 0) = false := by simp; omega
      have d2 : decide (7 < o) = true := by simpa using h2
      go_enter Tryd.func44, Tryd.ntmps44
      go_wp2
      go_ret2
      exact ⟨_, rfl, OutR.nil _ _ _ _, HH.out, Keeps.refl _ _⟩
    · have d1 : decide (o < 0) = false := by simp; omega
      have d2 : decide (7 < o) = false := by simp; omega
      have d3 : decide (k < 0) = true := by simpa using h3
      go_enter Tryd.func44, Tryd.ntmps44
      go_wp2
      go_ret2
      exact ⟨_, rfl, OutR.nil _ _ _ _, HH.out, Keeps.refl _ _⟩
end Po
end Go.Proofs.YtcjdejhjbelggaaDoor
