/- The pool package's walks: Grant. -/
import Derived.Test.YtcjdejhjbelggaaDoorPoB
import Derived.Deep.AppendLies
set_option linter.unusedVariables false
set_option linter.unusedSimpArgs false
namespace Go.Proofs.YtcjdejhjbelggaaDoor
open Go.RowKit Go.ChangeMaps
namespace Po
def grantM (Of : List Int) (o k : Int) : List Nat := if 0 ≤ o ∧ o < 8 ∧ 0 ≤ k then (if (win Of (-1)).length < k then [] else more Of k.toNat) else []
def grantE (Of : List Int) (o k : Int) : Int := if 0 ≤ o ∧ o < 8 ∧ 0 ≤ k then (if (win Of (-1)).length < k then 9 else 0) else 12
def grantO (Of : List Int) (o k : Int) : List Int := if 0 ≤ o ∧ o < 8 ∧ 0 ≤ k then (if (win Of (-1)).length < k then Of else granted Of o k.toNat) else Of
/-- What a call that turns a pool leaves. -/
def TurnR (w : World) (p s : Nat) (v : Value) (V : Nat → Value) (M : List Nat) (E : Int) (Of' : List Int) (e : Ending) (w' : World) : Prop :=
  ∃ u V', e = .returned (.tuple #[u, .int .i64 E]) ∧ OutR 3 1 w.heap.size w' u M.length (ints (zs M)) ∧ At w' p s v V' Of' ∧ Keeps (Fp p s v) w w' ∧ (∀ i, i < 8 → ∀ g, (V' i).ownBlock = some g → (V i).ownBlock = some g ∨ w.heap.size ≤ g)
theorem more_len {Of : List Int} {k : Nat} (h : k ≤ (win Of (-1)).length) : (more Of k).length = k := by unfold more; rw [List.length_take]; omega
theorem more_succ {Of : List Int} {j : Nat} (hj : j < (win Of (-1)).length) : more Of (j + 1) = more Of j ++ [(win Of (-1))[j]] := by
  unfold more; rw [List.take_succ_eq_append_getElem hj]
theorem taken_step {Of : List Int} {j : Nat} (hj : j < (win Of (-1)).length) : Sh.takeR (taken Of j) = ((((win Of (-1))[j] : Nat) : Int), 0) ∧ Sh.takeS (taken Of j) = taken Of (j + 1) := by
  have hd : (win Of (-1)).drop j = (win Of (-1))[j] :: (win Of (-1)).drop (j + 1) := List.drop_eq_getElem_cons hj
  obtain ⟨h1, h2⟩ := frees_taken Of j
  rw [hd] at h1
  have e : taken Of (j + 1) = (taken Of j).set ((win Of (-1))[j]) false := by
    unfold taken more
    rw [List.take_succ_eq_append_getElem hj, List.foldl_append]; rfl
  unfold Sh.takeR Sh.takeS
  rw [h1, e]
  exact ⟨rfl, rfl⟩
set_option maxRecDepth 100000 in
set_option maxHeartbeats 1000000 in
theorem grant_no (w : World) (p s : Nat) (v : Value) (V : Nat → Value) (Of : List Int) (o k : Int) (h : At w p s v V Of) (hn : ¬ (0 ≤ o ∧ o < 8 ∧ 0 ≤ k)) :
    Calls Tryd.prog 11 #[.pointer (some ⟨p, 0, none⟩), .int .i64 o, .int .i64 k] w (TurnR w p s v V [] 12 Of) := by
  have q := ready_any w p o k
  have e : rdy o k = 12 := by unfold rdy; rw [if_neg hn]
  rw [e] at q
  have HH := Hid.of h
  clear h e hn
  go_enter Tryd.func11, Tryd.ntmps11
  go_wp2_with fail
  refine q.mono ?_
  rintro e w1 ⟨rfl, rfl⟩
  clear q
  go_wp2
  go_ret2
  exact ⟨_, V, rfl, OutR.nil _ _ _ _, HH.out, Keeps.refl _ _, fun i _ g hg => .inl hg⟩
set_option maxRecDepth 100000 in
set_option maxHeartbeats 1000000 in
theorem grant_few (w : World) (p s : Nat) (v : Value) (V : Nat → Value) (Of : List Int) (o k : Int) (h : At w p s v V Of) (hn : 0 ≤ o ∧ o < 8 ∧ 0 ≤ k) (hk : (win Of (-1)).length < k) :
    Calls Tryd.prog 11 #[.pointer (some ⟨p, 0, none⟩), .int .i64 o, .int .i64 k] w (TurnR w p s v V [] 9 Of) := by
  have q := ready_any w p o k
  have e : rdy o k = 0 := by unfold rdy; rw [if_pos hn]
  rw [e] at q
  have q2 := Sh.free_any w s v (fr Of) h.shelf
  rw [frees_fr] at q2
  have c0 := h.zero
  have hd : decide (((win Of (-1)).length : Int) < k) = true := by simpa using hk
  have HH := Hid.of h
  clear h e hn hk
  go_enter Tryd.func11, Tryd.ntmps11
  go_wp2_with fail
  refine q.mono ?_
  rintro e w1 ⟨rfl, rfl⟩
  clear q
  go_wp2_with fail
  refine q2.mono ?_
  rintro e w1 ⟨rfl, rfl⟩
  clear q2
  go_wp2
  go_ret2
  exact ⟨_, V, rfl, OutR.nil _ _ _ _, HH.out, Keeps.refl _ _, fun i _ g hg => .inl hg⟩
theorem row_own {w : World} {u : Value} {n : Nat} {L : List Nat} (hn : n = L.length) (h : Own w 3 1 u n (ints (zs L))) : Row w u L := by
  subst hn
  obtain ⟨A, cap, hv, h1, -, h3⟩ := h.rd
  refine ⟨A, cap, hv, h1, ?_, ?_, h3⟩
  · rcases h.2 with ⟨h2, h4⟩ | ⟨g, cap', cur, hv', _, _, _, hc, _⟩
    · rw [hv] at h2; injection h2 with _ _ e; rw [e]; exact Nat.zero_le _
    · rw [hv] at hv'; injection hv' with _ _ e; rw [e]; exact hc
  · rintro rfl
    rcases h.2 with ⟨h2, _⟩ | ⟨g, cap', cur, hv', _⟩
    · rw [hv] at h2; injection h2 with _ e1 e2; exact ⟨e1, e2⟩
    · rw [hv] at hv'; injection hv' with e1; cases e1
theorem grant_mid {w wr w5 w6 : World} {p s : Nat} {v : Value} {V : Nat → Value} {Of : List Int} {o k n : Nat} {u : Value} (h : At w p s v V Of) (ho : o < 8) (hK : Keeps (Sh.Fp s v) w wr) (K5 : Keeps (fun _ => False) wr w5)
    (o5 : Own w5 3 1 u n (ints (zs (win Of o)) ++ ints (zs (more Of k)))) (B5 : ∀ g, u.ownBlock = some g → wr.heap.size ≤ g) (hw6 : w5.setCell ⟨p, 1 + o, none⟩ u = w6) :
    w6.cell? ⟨p, 1 + o, none⟩ = some u ∧ Own w6 3 1 u n (ints (zs (win Of o) ++ zs (more Of k))) ∧ w6.heap[p]? = some (.cells #[.pointer (some ⟨s, 0, none⟩), if 0 = o then u else V 0, if 1 = o then u else V 1, if 2 = o then u else V 2, if 3 = o then u else V 3, if 4 = o then u else V 4, if 5 = o then u else V 5, if 6 = o then u else V 6, if 7 = o then u else V 7] 72 (0, 0)) ∧ Keeps (Fp p s v) w w6 := by
  have hp := K5.at (hK.at h.cells h.ne) (fun x => x)
  have hp6 := set_of hp (1 + o) u
  rw [hw6, eight_set ho] at hp6
  have lp := lt_of (hK.at h.cells h.ne)
  refine ⟨?_, ?_, hp6, ?_⟩
  · have e := cell_of hp6 (1 + o) (eight (V := fun j => if j = o then u else V j) ho)
    simpa using e
  · rw [ints_append, ← hw6]
    exact o5.setCell _ _ (fun e => by have := B5 _ e; simp only [] at this; omega)
  · rw [← hw6]
    exact ((hK.mono (fun x _ hx => .inr hx)).trans (K5.mono (fun _ _ x => x.elim))).setCell _ _ (.inl (.inl rfl))
theorem grant_end {w wr w6 w7 : World} {p s : Nat} {v : Value} {V : Nat → Value} {Of : List Int} {o k n : Nat} {u : Value} (h : At w p s v V Of) (ho : o < 8) (hn : n = (win Of o).length + (more Of k).length) (hz : w.heap.size ≤ wr.heap.size) (hS : Sh.At w6 s v (taken Of k)) (B5 : ∀ g, u.ownBlock = some g → wr.heap.size ≤ g)
    (hp6 : w6.heap[p]? = some (.cells #[.pointer (some ⟨s, 0, none⟩), if 0 = o then u else V 0, if 1 = o then u else V 1, if 2 = o then u else V 2, if 3 = o then u else V 3, if 4 = o then u else V 4, if 5 = o then u else V 5, if 6 = o then u else V 6, if 7 = o then u else V 7] 72 (0, 0))) (K6 : Keeps (Fp p s v) w w6)
    (o7 : Own w7 3 1 u n (ints ((zs (win Of o) ++ zs (more Of k)).mergeSort fun x y => decide (x ≤ y)))) (k7 : Keeps (fun b => u.ownBlock = some b) w6 w7) :
    At w7 p s v (fun j => if j = o then u else V j) (granted Of o k) ∧ Keeps (Fp p s v) w w7 ∧ (∀ i, i < 8 → ∀ g, (if i = o then u else V i).ownBlock = some g → (V i).ownBlock = some g ∨ w.heap.size ≤ g) := by
  have hf : ∀ x, Fp p s v x → ¬ u.ownBlock = some x := fun x hx e => by have := B5 x e; have := h.lt hx; omega
  have hoi : (o : Int) ≠ -1 := by omega
  rw [← zs_append, granted_sort Of o hoi k] at o7
  have hlen : n = (win (granted Of o k) o).length := by
    have := congrArg List.length (granted_sort Of o hoi k)
    rw [List.length_mergeSort, zs_length, zs_length, List.length_append] at this
    omega
  refine ⟨⟨k7.at hp6 (hf p (.inl rfl)), ?_, h.ne, fun i hi => ?_, fun i hi g hg hx => ?_, by rw [granted_len]; exact h.len, h.off, fun i hi g hg => ?_⟩, K6.trans' k7 (fun x hx hl => by have := B5 x hx; omega), fun i hi g hg => ?_⟩
  · rw [taken_all Of o hoi k]
    exact hS.keep k7 (fun x hx => hf x (.inr hx))
  · by_cases e : i = o
    · subst e
      simp only [if_true]
      exact row_own hlen o7
    · simp only [if_neg e]
      rw [granted_other Of o i (by omega) (by omega) k]
      obtain ⟨A, cap, hV, h1, h2, h3, h4⟩ := h.row i hi
      have hb : ∀ ad, A = some ad → ¬ Fp p s v ad.block := fun ad ea => h.apart i hi _ (by rw [hV, ea]; rfl)
      have r6 := h4.keep K6 (fun ad ea _ => hb ad ea)
      refine ⟨A, cap, hV, h1, h2, h3, ?_⟩
      by_cases hnil : win Of i = []
      · rw [hnil]; exact Rd.nil _ _
      · refine r6.keep k7 (fun ad ea _ hx => ?_)
        have := B5 _ hx
        have := Row.lt (h.row i hi) hnil _ (by rw [hV, ea]; rfl)
        omega
  · by_cases e : i = o
    · simp only [if_pos e] at hg
      exact hf g hx hg
    · simp only [if_neg e] at hg
      exact h.apart i hi g hg hx
  · by_cases e : i = o
    · simp only [if_pos e] at hg
      exact o7.lt hg
    · simp only [if_neg e] at hg
      have h1 := h.vlt i hi g hg
      have h2 := K6.size
      have h3 := k7.size
      omega
  · by_cases e : i = o
    · simp only [if_pos e] at hg
      exact .inr (by have := B5 g hg; omega)
    · simp only [if_neg e] at hg
      exact .inl hg
set_option maxRecDepth 100000 in
set_option maxHeartbeats 2000000 in
theorem grant_yes (w : World) (p s : Nat) (v : Value) (V : Nat → Value) (Of : List Int) (o k : Nat) (h : At w p s v V Of) (ho : o < 8) (hk : k ≤ (win Of (-1)).length) (hT : Sh.Tab w) :
    Calls Tryd.prog 11 #[.pointer (some ⟨p, 0, none⟩), .int .i64 o, .int .i64 k] w (TurnR w p s v V (more Of k) 0 (granted Of o k)) := by
  have q := ready_any w p o k
  have e : rdy o k = 0 := by unfold rdy; rw [if_pos (by omega)]
  rw [e] at q
  have q2 := Sh.free_any w s v (fr Of) h.shelf
  rw [frees_fr] at q2
  have c0 := h.zero
  have hle := h.len
  have hwl := win_len Of (-1)
  have hd : decide ((win Of (-1)).length < k) = false := by simp; omega
  have hk32 : k ≤ 32 := by omega
  have HH := Hid.of h
  have HT := Hid.of hT
  have HKL := Hid.of hk
  have sh0 := h.shelf
  clear h e hT hle hwl hk
  go_enter Tryd.func11, Tryd.ntmps11
  go_wp2_with fail
  refine q.mono ?_
  rintro e w1 ⟨rfl, rfl⟩
  clear q
  go_wp2_with fail
  refine q2.mono ?_
  rintro e w1 ⟨rfl, rfl⟩
  clear q2
  go_wp2
  clear hd c0
  go_loopw [9, 27] (fun u i wr => ∃ j : Nat, j ≤ k ∧ i = .int .i64 j ∧ OutR 3 1 w.heap.size wr u j (ints (zs (more Of j))) ∧ Sh.At wr s v (taken Of j) ∧ Keeps (Sh.Fp s v) w wr) (fun _ i _ => k - (intOf i).toNat)
  case atStart => exact ⟨0, Nat.zero_le _, rfl, OutR.nil _ _ _ _, sh0, Keeps.refl _ _⟩
  case round =>
    clear sh0
    obtain ⟨j, hj, rfl, hO, hS, hK⟩ := hrel
    obtain ⟨A, cap, rfl, -, -, -⟩ := hO.1.shape
    by_cases hlt : j < k
    · have hjl : j < (win Of (-1)).length := by have := HKL.out; omega
      have c0 := cell_of (v := .pointer (some ⟨s, 0, none⟩)) (hK.at HH.out.cells HH.out.ne) 0 rfl
      obtain ⟨t1, t2⟩ := taken_step hjl
      have qt := Sh.take_any wr s v (taken Of j) hS (HT.out.keep hK (fun hx => HH.out.off (.inr hx)))
      rw [t1, t2] at qt
      have HM : Hid (ints (zs (more Of (j + 1))) = ints (zs (more Of j)) ++ [.int .i64 (((win Of (-1))[j] : Nat) : Int)]) := Hid.of (by rw [more_succ hjl, zs_append, ints_append]; rfl)
      obtain ⟨c, hc⟩ : ∃ c, (win Of (-1))[j] = c := ⟨_, rfl⟩
      rw [hc] at qt HM
      dsimp only at qt
      have hlti : (j : Int) < (k : Int) := by omega
      have HO := Hid.of hO
      have HK := Hid.of hK
      clear hjl t1 t2 hS hc hO hK
      go_wp2_with fail
      refine qt.mono ?_
      rintro e w2 ⟨rfl, hS2, k2⟩
      have hO2 : OutR 3 1 w.heap.size w2 (.slice A j cap) j (ints (zs (more Of j))) := ⟨HO.out.1.keep k2 (fun g hg hx => by have := HO.out.2 g hg; have := HH.out.lt (.inr hx); omega), HO.out.2⟩
      have HK2 := Hid.of (HK.out.trans k2)
      have HS2 := Hid.of hS2
      have HO2 := Hid.of hO2
      have o2 := hO2.1
      clear k2 hS2 qt hO2 c0
      go_wp2_with (at_builtin; refine wpList_app1 slInts w2 rfl _ _ rfl (.slice A j cap) j (ints (zs (more Of j))) rfl o2 [.int .i64 (c : Int)] rfl rfl (by simp [Value.oneCell']) (by unfold maxLen; omega) (by omega) ?_; intro v5 w5 o5 k5 at5; have HF : Hid (OutR 3 1 w.heap.size w5 v5 (j + 1) (ints (zs (more Of (j + 1)))) ∧ Sh.At w5 s v (taken Of (j + 1)) ∧ Keeps (Sh.Fp s v) w w5) := Hid.of (by
        have hz := HK2.out.size
        refine ⟨?_, HS2.out.keep k5 (fun x hx hg => by have := HO2.out.2 x hg; have := HH.out.lt (.inr hx); omega), HK2.out.trans' k5 (fun x hx hl => by have := HO2.out.2 x hx; omega)⟩
        rw [HM.out]
        refine ⟨o5, fun g hg => ?_⟩
        rcases at5 with e | e
        · exact HO2.out.2 g (by rw [← e]; exact hg)
        · rw [e] at hg; injection hg with hg; omega); clear o5 k5 at5)
      go_roundw
      case rel => exact ⟨j + 1, by omega, by go_num, HF.out.1, HF.out.2.1, HF.out.2.2⟩
      case measure => simp [intOf]; omega
    · obtain rfl : j = k := by omega
      have hl1 : ¬ ((j : Int) < (j : Int)) := by omega
      have hz := hK.size
      have hp := hK.at HH.out.cells HH.out.ne
      have c1 := cell_of hp (1 + o) (eight ho)
      have f1 := free_of hp (1 + o)
      obtain ⟨Aw, capw, hV, hw1, hw2, hw3, hw4⟩ := HH.out.row o ho
      rw [hV] at c1
      have hwl := win_len Of o
      have hle := HH.out.len
      have rw0 : Rd wr Aw (ints (zs (win Of o))) := hw4.keep hK (fun ad e _ hx => HH.out.apart o ho _ (by rw [hV, e]; rfl) (.inr hx))
      have q3 := clone_ints wr.drew Aw (win Of o).length capw (ints (zs (win Of o))) hw3 (by rw [ints_length, zs_length]) rw0 (one_ints _) (by omega)
      obtain ⟨n1, hn1⟩ : ∃ n1, (win Of o).length = n1 := ⟨_, rfl⟩
      rw [hn1] at c1 q3 hwl
      have hn32 : n1 ≤ 32 := by omega
      have hoi : (o : Int) < 8 := by omega
      have hA : A = none → j = 0 ∧ cap = 0 := by
        rintro rfl
        rcases hO.1.2 with ⟨h2, _⟩ | ⟨g, cap', cur, hv, _⟩
        · injection h2 with _ e1 e2; exact ⟨e1, e2⟩
        · injection hv with e1; cases e1
      obtain ⟨A', cap', hv', -, -, rA⟩ := hO.rd
      obtain ⟨rfl, rfl⟩ : A = A' ∧ cap = cap' := by injection hv' with e1 _ e3; exact ⟨e1, e3⟩
      have hlm : (ints (zs (more Of j))).length = j * 1 := by rw [hO.1.1]
      have HO := Hid.of hO
      have HK := Hid.of hK
      have HS := Hid.of hS
      have HP := Hid.of hp
      have HN := Hid.of hn1
      have lp : p < wr.heap.size := lt_of hp
      clear hO hK hS hw1 hw2 hw3 hw4 hV rw0 hv' hp hn1 hle hwl
      go_wp2
      go_region_law (first
        | (refine step_appL slInts w3 rfl _ _ rfl (.slice A1 n1 cap1) n1 (ints (zs (win Of o))) rfl o3.1 A j cap (ints (zs (more Of j))) rfl hA hlm r3 (one_ints _) (by unfold maxLen; omega) (by omega) ?_; intro v5 w5 o5 k5 at5; obtain ⟨A5, cap5, hv5, -, -, -⟩ := o5.shape; subst hv5; have hpb : ¬ (Value.slice A1 n1 cap1).ownBlock = some p := (fun hx => by have hb : wr.heap.size ≤ p := o3.2 p hx; omega); have c5 := keep_cell k5 hpb c3; have f5 := keep_free k5 (Nat.lt_of_lt_of_le lp k3.of_drew.size) hpb f3; have K5 : Keeps (fun _ => False) wr w5 := k3.of_drew.trans' k5 (fun x hx hl => by have hb : wr.heap.size ≤ x := o3.2 x hx; omega); have B5 : ∀ g, (Value.slice A5 (n1 + j) cap5).ownBlock = some g → wr.heap.size ≤ g := (fun g hg => by rcases at5 with e | e; { exact o3.2 g (by rw [← e]; exact hg) }; { rw [e] at hg; injection hg with hg; have := k3.size; have : wr.heap.size ≤ w3.heap.size := this; omega }); obtain ⟨w6, hw6⟩ : ∃ w6, w5.setCell ⟨p, 1 + o, none⟩ (.slice A5 (n1 + j) cap5) = w6 := ⟨_, rfl⟩; obtain ⟨c6, o6, p6, K6⟩ := grant_mid (k := j) HH.out ho HK.out K5 o5 B5 hw6; have HF := Hid.of (And.intro K5 (And.intro B5 (And.intro p6 (And.intro K6 hw6)))); have q6 := sort_own w6 _ _ _ o6 (by omega); clear o5 k5 at5 K5 B5 o6 p6 K6 o3 k3 r3 c3 f3)
        | (go_simp; go_at_call 36; refine q3.mono ?_; rintro e w3 ⟨v1, rfl, o3, k3⟩; obtain ⟨A1, cap1, hv1, -, -, -⟩ := o3.1.shape; subst hv1; have r3 := rA.old k3.of_drew; have c3 := keep_cell k3.of_drew (fun x => x) c1; have f3 := keep_free k3.of_drew lp (fun x => x) f1))
      all_goals
        go_wp2_with fail
        refine q6.mono ?_
        rintro e w7 ⟨rfl, o7, k7⟩
        have HG := Hid.of (And.intro o7 k7)
        clear o7 k7 q6
        go_wp2
        go_ret2
        obtain ⟨K5, B5, p6, K6, hw6'⟩ := HF.out
        obtain ⟨o7, k7⟩ := HG.out
        have hS6 : Sh.At w6 s v (taken Of j) := by
          rw [← hw6']
          have h5 := HS.out.old K5
          exact h5.keep ((Keeps.refl (fun x => x = p) w5).setCell _ _ (.inl rfl)) (fun x hx e => HH.out.ne (by rw [← e]; exact hx))
        obtain ⟨a7, K7, B7⟩ := grant_end (n := n1 + j) HH.out ho (by rw [HN.out, more_len HKL.out]) hz hS6 B5 p6 K6 o7 k7
        refine ⟨_, _, rfl, ?_, a7, K7, B7⟩
        rw [more_len HKL.out]
        have hO := HO.out
        refine ⟨?_, hO.2⟩
        have o5' := hO.1.keep K5 (fun _ _ x => x)
        have o6' : Own w6 3 1 (.slice A j cap) j (ints (zs (more Of j))) := by
          rw [← hw6']
          refine o5'.setCell _ _ (fun e => ?_)
          have h1 : w.heap.size ≤ p := hO.2 _ e
          have h2 := HH.out.lt (x := p) (.inl rfl)
          omega
        exact o6'.keep k7 (fun g hg hx => by have := B5 g hx; have := hO.1.lt hg; omega)
end Po
end Go.Proofs.YtcjdejhjbelggaaDoor
