/- The pool package's walks: Shrink, Drop, Copy. -/
import Derived.Test.YtcjdejhjbelggaaDoorPoC
set_option linter.unusedVariables false
set_option linter.unusedSimpArgs false
namespace Go.Proofs.YtcjdejhjbelggaaDoor
open Go.RowKit Go.ChangeMaps
namespace Po
def shrinkM (Of : List Int) (o k : Int) : List Nat := if 0 ≤ o ∧ o < 8 ∧ 0 ≤ k then (if (win Of o).length < k then [] else gone Of o k.toNat) else []
def shrinkE (Of : List Int) (o k : Int) : Int := if 0 ≤ o ∧ o < 8 ∧ 0 ≤ k then (if (win Of o).length < k then 12 else 0) else 12
def shrinkO (Of : List Int) (o k : Int) : List Int := if 0 ≤ o ∧ o < 8 ∧ 0 ≤ k then (if (win Of o).length < k then Of else shrunk Of o k.toNat) else Of
set_option maxRecDepth 100000 in
set_option maxHeartbeats 1000000 in
theorem shrink_no (w : World) (p s : Nat) (v : Value) (V : Nat → Value) (Of : List Int) (o k : Int) (h : At w p s v V Of) (hn : ¬ (0 ≤ o ∧ o < 8 ∧ 0 ≤ k)) :
    Calls Tryd.prog 12 #[.pointer (some ⟨p, 0, none⟩), .int .i64 o, .int .i64 k] w (TurnR w p s v V [] 12 Of) := by
  have q := ready_any w p o k
  have e : rdy o k = 12 := by unfold rdy; rw [if_neg hn]
  rw [e] at q
  have HH := Hid.of h
  clear h e hn
  go_enter Tryd.func12, Tryd.ntmps12
  go_wp2_with fail
  refine q.mono ?_
  rintro e w1 ⟨rfl, rfl⟩
  clear q
  go_wp2
  go_ret2
  exact ⟨_, V, rfl, OutR.nil _ _ _ _, HH.out, Keeps.refl _ _, fun i _ g hg => .inl hg⟩
set_option maxRecDepth 100000 in
set_option maxHeartbeats 1000000 in
theorem shrink_few (w : World) (p s : Nat) (v : Value) (V : Nat → Value) (Of : List Int) (o : Nat) (k : Int) (h : At w p s v V Of) (ho : o < 8) (hk0 : 0 ≤ k) (hk : (win Of o).length < k) :
    Calls Tryd.prog 12 #[.pointer (some ⟨p, 0, none⟩), .int .i64 o, .int .i64 k] w (TurnR w p s v V [] 12 Of) := by
  have q := ready_any w p o k
  have e : rdy o k = 0 := by unfold rdy; rw [if_pos (by omega)]
  rw [e] at q
  obtain ⟨c1, -⟩ := h.win_at ho
  obtain ⟨A, cap, hV, h1, h2, h3, h4⟩ := h.row o ho
  rw [hV] at c1
  obtain ⟨n, hn⟩ : ∃ n, (win Of o).length = n := ⟨_, rfl⟩
  rw [hn] at c1 hk
  have hoi : (o : Int) < 8 := by omega
  have hd : decide ((n : Int) < k) = true := by simpa using hk
  have HH := Hid.of h
  clear h e hk hn hV h1 h2 h3 h4
  go_enter Tryd.func12, Tryd.ntmps12
  go_wp2_with fail
  refine q.mono ?_
  rintro e w1 ⟨rfl, rfl⟩
  clear q
  go_wp2
  go_ret2
  exact ⟨_, V, rfl, OutR.nil _ _ _ _, HH.out, Keeps.refl _ _, fun i _ g hg => .inl hg⟩
theorem give_step {Of : List Int} {o : Int} {k j : Nat} (hj : j < (gone Of o k).length) : Sh.giveS (given Of o k j) (((gone Of o k)[j] : Nat) : Int) = given Of o k (j + 1) := by
  rw [given_succ Of o k j hj]
  unfold Sh.giveS
  rw [if_pos, Int.toNat_natCast]
  have := gone_lt ((gone Of o k)[j]) (List.getElem_mem hj)
  rw [given_len]
  omega
theorem shrink_end {w w5 w6 : World} {p s : Nat} {v : Value} {V : Nat → Value} {Of : List Int} {o k : Nat} {u : Value} (h : At w p s v V Of) (ho : o < 8) (hz : w.heap.size ≤ w5.heap.size) (hS : Sh.At w5 s v (given Of o k (gone Of o k).length)) (hp5 : w5.heap[p]? = some (.cells #[.pointer (some ⟨s, 0, none⟩), V 0, V 1, V 2, V 3, V 4, V 5, V 6, V 7] 72 (0, 0))) (K5 : Keeps (Fp p s v) w w5)
    (o5 : OutR 3 1 w.heap.size w5 u ((win Of o).take k).length (ints (zs ((win Of o).take k)))) (hw6 : w5.setCell ⟨p, 1 + o, none⟩ u = w6) :
    At w6 p s v (fun j => if j = o then u else V j) (shrunk Of o k) ∧ Keeps (Fp p s v) w w6 ∧ (∀ i, i < 8 → ∀ g, (if i = o then u else V i).ownBlock = some g → (V i).ownBlock = some g ∨ w.heap.size ≤ g) := by
  have hoi : (o : Int) ≠ -1 := by omega
  have hf : ∀ x, Fp p s v x → ¬ u.ownBlock = some x := fun x hx e => by have := o5.2 x e; have := h.lt hx; omega
  have k56 : Keeps (fun x => x = p) w5 w6 := by rw [← hw6]; exact (Keeps.refl _ _).setCell _ _ (.inl rfl)
  have hp6 := set_of hp5 (1 + o) u
  rw [hw6, eight_set ho] at hp6
  refine ⟨⟨hp6, ?_, h.ne, fun i hi => ?_, fun i hi g hg hx => ?_, by rw [shrunk_len]; exact h.len, h.off, fun i hi g hg => ?_⟩, K5.trans (k56.mono (fun x _ hx => .inl hx)), fun i hi g hg => ?_⟩
  · rw [given_all]
    exact hS.keep k56 (fun x hx e => h.ne (by rw [← e]; exact hx))
  · by_cases e : i = o
    · subst e
      simp only [if_true]
      rw [shrunk_own Of i hoi k]
      exact row_own rfl (o5.1.keep k56 (fun g hg e => hf p (.inl rfl) (by rw [← e]; exact hg)))
    · simp only [if_neg e]
      rw [shrunk_other Of o i (by omega) (by omega) k]
      exact ((h.row i hi).keep K5 (h.apart i hi)).keep k56 (fun g hg e => h.apart i hi g hg (.inl e))
  · by_cases e : i = o
    · simp only [if_pos e] at hg
      exact hf g hx hg
    · simp only [if_neg e] at hg
      exact h.apart i hi g hg hx
  · by_cases e : i = o
    · simp only [if_pos e] at hg
      exact Nat.lt_of_lt_of_le (o5.1.lt hg) k56.size
    · simp only [if_neg e] at hg
      have h1 := h.vlt i hi g hg
      have h3 := k56.size
      omega
  · by_cases e : i = o
    · simp only [if_pos e] at hg
      exact .inr (o5.2 g hg)
    · simp only [if_neg e] at hg
      exact .inl hg
set_option maxRecDepth 100000 in
set_option maxHeartbeats 2000000 in
theorem shrink_yes (w : World) (p s : Nat) (v : Value) (V : Nat → Value) (Of : List Int) (o k : Nat) (h : At w p s v V Of) (ho : o < 8) (hk : k ≤ (win Of o).length) :
    Calls Tryd.prog 12 #[.pointer (some ⟨p, 0, none⟩), .int .i64 o, .int .i64 k] w (TurnR w p s v V (gone Of o k) 0 (shrunk Of o k)) := by
  have q := ready_any w p o k
  have e : rdy o k = 0 := by unfold rdy; rw [if_pos (by omega)]
  rw [e] at q
  obtain ⟨c1, -⟩ := h.win_at ho
  obtain ⟨A, cap, hV, h1, h2, h3, h4⟩ := h.row o ho
  rw [hV] at c1
  have hwl := win_len Of o
  have hle := h.len
  have lints : (ints (zs (win Of o))).length = (win Of o).length := by rw [ints_length, zs_length]
  obtain ⟨A2, s1, s2, hA2, r2, b2⟩ := sl_from w A (win Of o).length k cap hk h1 (ints (zs (win Of o))) lints h3 h4
  obtain ⟨t1, t2⟩ := sl_to A (win Of o).length k cap (by omega)
  have eg : (ints (zs (win Of o))).drop k = ints (zs (gone Of o k)) := by unfold gone; rw [zs_drop]; unfold ints; rw [List.map_drop]
  have et : (ints (zs (win Of o))).take k = ints (zs ((win Of o).take k)) := by rw [zs_take]; unfold ints; rw [List.map_take]
  rw [eg] at r2
  have rt := Rd_take1 h4 k
  rw [et] at rt
  have lg : (gone Of o k).length = (win Of o).length - k := by unfold gone; rw [List.length_drop]
  have qc := clone_ints w A2 ((win Of o).length - k) (cap - k) (ints (zs (gone Of o k))) hA2 (by rw [ints_length, zs_length, lg]) r2 (one_ints _) (by omega)
  have lt' : ((win Of o).take k).length = k := by rw [List.length_take]; omega
  have h3' : A = none → k = 0 ∧ cap = 0 := fun e => by have := h3 e; omega
  have apA : ∀ ad, A = some ad → ¬ Fp p s v ad.block := fun ad ea => h.apart o ho _ (by rw [hV, ea]; rfl)
  obtain ⟨n, hn⟩ : ∃ n, (win Of o).length = n := ⟨_, rfl⟩
  rw [hn] at c1 s1 s2 t1 t2 qc hwl lg
  have hoi : (o : Int) < 8 := by omega
  have hd : decide (n < k) = false := by simp; omega
  have hn32 : n ≤ 32 := by omega
  have hk32 : k ≤ n := by omega
  have HH := Hid.of h
  have HRT := Hid.of rt
  have HA := Hid.of (And.intro h3' apA)
  have HL := Hid.of (And.intro lg (And.intro lt' h1))
  have sh0 := h.shelf
  have HAP := Hid.of h4
  clear h e hk hn hV h1 h2 h3 h4 lints hA2 r2 b2 eg et rt lg lt' h3' apA hwl hle
  go_enter Tryd.func12, Tryd.ntmps12
  go_wp2_with fail
  refine q.mono ?_
  rintro e w1 ⟨rfl, rfl⟩
  clear q
  go_wp2_with fail
  refine qc.mono ?_
  rintro e w1 ⟨u, rfl, ou, k1⟩
  obtain ⟨A3, cap3, rfl, -, -, r3⟩ := ou.rd
  have sh1 := sh0.old k1
  have HOU := Hid.of ou
  have HK1 := Hid.of k1
  clear qc ou k1 sh0
  go_wp2
  go_loopw [36] (fun i wr => ∃ j : Nat, j ≤ n - k ∧ i = .int .i64 j ∧ Sh.At wr s v (given Of o k j) ∧ Keeps (Sh.Fp s v) w1 wr) (fun i _ => (n - k) - (intOf i).toNat)
  case atStart => exact ⟨0, Nat.zero_le _, rfl, sh1, Keeps.refl _ _⟩
  case round =>
    clear sh1
    obtain ⟨j, hj, rfl, hS, hK⟩ := hrel
    by_cases hlt : j < n - k
    · have hjl : j < (gone Of o k).length := by rw [HL.out.1]; exact hlt
      have hb1 := HK1.out.size
      have rg : Rd wr A3 (ints (zs (gone Of o k))) := r3.keep hK (fun ad ea hl hx => by
        have h1 := HOU.out.2 ad.block (by rw [ea]; rfl)
        have h2 := HH.out.lt (.inr hx)
        omega)
      obtain ⟨b, oo, ss, rfl, hc⟩ := rd_int rg j (by rw [zs_length]; exact hjl)
      have eg : (zs (gone Of o k)).getD j 0 = (((gone Of o k)[j] : Nat) : Int) := by
        unfold zs
        rw [List.getD_eq_getElem?_getD, List.getElem?_map, List.getElem?_eq_getElem hjl]; rfl
      rw [eg] at hc
      have c0 := cell_of (v := .pointer (some ⟨s, 0, none⟩)) (hK.at (HK1.out.at HH.out.cells (fun x => x)) HH.out.ne) 0 rfl
      have qg := Sh.give_any wr s v (given Of o k j) (((gone Of o k)[j] : Nat) : Int) hS
      rw [give_step hjl] at qg
      obtain ⟨c, hcc⟩ : ∃ c, (gone Of o k)[j] = c := ⟨_, rfl⟩
      rw [hcc] at hc qg
      obtain ⟨E, hE⟩ : ∃ E, Sh.giveE (given Of o k j) (c : Int) = E := ⟨_, rfl⟩
      rw [hE] at qg
      have hlti : (j : Int) < (((n - k : Nat)) : Int) := by omega
      have HK := Hid.of hK
      clear hjl hcc eg rg hK hS hE
      go_wp2_with fail
      refine qg.mono ?_
      rintro e w2 ⟨rfl, hS2, k2⟩
      have HF := Hid.of (And.intro hS2 (HK.out.trans k2))
      clear hS2 k2 qg c0
      go_wp2
      go_roundw
      case rel => exact ⟨j + 1, by omega, by go_num, HF.out.1, HF.out.2⟩
      case measure => simp [intOf]; omega
    · have hje : j = n - k := by omega
      have hl1 : ¬ ((j : Int) < ((n - k : Nat) : Int)) := by omega
      have hb1 := HK1.out.size
      have hpr := hK.at (HK1.out.at HH.out.cells (fun x => x)) HH.out.ne
      have lp : p < wr.heap.size := lt_of hpr
      have c9 := cell_of hpr (1 + o) (eight ho)
      have f9 := free_of hpr (1 + o)
      have rtr : Rd wr A (ints (zs ((win Of o).take k))) := (HRT.out.old HK1.out).keep hK (fun ad ea _ hx => HA.out.2 ad ea (.inr hx))
      have q3 := clone_ints wr.drew A k cap (ints (zs ((win Of o).take k))) HA.out.1 (by rw [ints_length, zs_length]; exact HL.out.2.1) rtr (one_ints _) (by have := HL.out.2.1; omega)
      have HS := Hid.of hS
      have HK := Hid.of hK
      have HP := Hid.of hpr
      have HJ := Hid.of hje
      clear hje hS hK hpr rtr hb1
      go_wp2
      go_region_law (first
        | (go_simp; go_at_call 36; refine q3.mono ?_; rintro e w3 ⟨v1, rfl, o3, k3⟩; obtain ⟨A1, cap1, hv1, -, -, -⟩ := o3.1.shape; subst hv1; have c3 := keep_cell k3.of_drew (fun x => x) c9; have f3 := keep_free k3.of_drew lp (fun x => x) f9; obtain ⟨w6, hw6⟩ : ∃ w6, w3.setCell ⟨p, 1 + o, none⟩ (.slice A1 k cap1) = w6 := ⟨_, rfl⟩; have HF := Hid.of (And.intro o3 (And.intro k3.of_drew hw6)); clear o3 k3))
      all_goals
        go_wp2
        go_ret2
        obtain ⟨o3, k3, hw6'⟩ := HF.out
        have hz : w.heap.size ≤ wr.heap.size := Nat.le_trans HK1.out.size HK.out.size
        have o3' : OutR 3 1 w.heap.size w3 (.slice A1 k cap1) ((win Of o).take k).length (ints (zs ((win Of o).take k))) := by
          rw [HL.out.2.1]
          exact ⟨o3.1, fun g hg => Nat.le_trans hz (o3.2 g hg)⟩
        have hS3 : Sh.At w3 s v (given Of o k (gone Of o k).length) := by
          rw [HL.out.1, ← HJ.out]; exact HS.out.old k3
        have K3 : Keeps (Fp p s v) w w3 := ((HK1.out.mono (fun _ _ x => x.elim)).trans (HK.out.mono (fun _ _ x => .inr x))).trans (k3.mono (fun _ _ x => x.elim))
        obtain ⟨a6, K6, B6⟩ := shrink_end HH.out ho K3.size hS3 (k3.at HP.out (fun x => x)) K3 o3' hw6'
        refine ⟨_, _, rfl, ?_, a6, K6, B6⟩
        rw [HL.out.1]
        have hO := HOU.out
        refine ⟨?_, hO.2⟩
        have oA := hO.1.keep HK.out (fun g hg hx => by have := hO.2 g hg; have := HH.out.lt (.inr hx); omega)
        have oB := oA.keep k3 (fun _ _ x => x)
        rw [← hw6']
        refine oB.setCell _ _ (fun e => ?_)
        have h1 : w.heap.size ≤ p := hO.2 _ e
        have h2 := HH.out.lt (x := p) (.inl rfl)
        omega
theorem shrink_any (w : World) (p s : Nat) (v : Value) (V : Nat → Value) (Of : List Int) (o k : Int) (h : At w p s v V Of) :
    Calls Tryd.prog 12 #[.pointer (some ⟨p, 0, none⟩), .int .i64 o, .int .i64 k] w (TurnR w p s v V (shrinkM Of o k) (shrinkE Of o k) (shrinkO Of o k)) := by
  unfold shrinkM shrinkE shrinkO
  by_cases hn : 0 ≤ o ∧ o < 8 ∧ 0 ≤ k
  · rw [if_pos hn, if_pos hn, if_pos hn]
    obtain ⟨o, rfl⟩ : ∃ n : Nat, o = n := ⟨o.toNat, by omega⟩
    by_cases hk : (win Of o).length < k
    · rw [if_pos hk, if_pos hk, if_pos hk]
      exact shrink_few w p s v V Of o k h (by omega) hn.2.2 hk
    · rw [if_neg hk, if_neg hk, if_neg hk]
      obtain ⟨k, rfl⟩ : ∃ n : Nat, k = n := ⟨k.toNat, by omega⟩
      rw [Int.toNat_natCast]
      exact shrink_yes w p s v V Of o k h (by omega) (by omega)
  · rw [if_neg hn, if_neg hn, if_neg hn]
    exact shrink_no w p s v V Of o k h hn
theorem grant_any (w : World) (p s : Nat) (v : Value) (V : Nat → Value) (Of : List Int) (o k : Int) (h : At w p s v V Of) (hT : Sh.Tab w) :
    Calls Tryd.prog 11 #[.pointer (some ⟨p, 0, none⟩), .int .i64 o, .int .i64 k] w (TurnR w p s v V (grantM Of o k) (grantE Of o k) (grantO Of o k)) := by
  unfold grantM grantE grantO
  by_cases hn : 0 ≤ o ∧ o < 8 ∧ 0 ≤ k
  · rw [if_pos hn, if_pos hn, if_pos hn]
    by_cases hk : (win Of (-1)).length < k
    · rw [if_pos hk, if_pos hk, if_pos hk]
      exact grant_few w p s v V Of o k h hn hk
    · rw [if_neg hk, if_neg hk, if_neg hk]
      obtain ⟨o, rfl⟩ : ∃ n : Nat, o = n := ⟨o.toNat, by omega⟩
      obtain ⟨k, rfl⟩ : ∃ n : Nat, k = n := ⟨k.toNat, by omega⟩
      rw [Int.toNat_natCast]
      exact grant_yes w p s v V Of o k h (by omega) (by omega) hT
  · rw [if_neg hn, if_neg hn, if_neg hn]
    exact grant_no w p s v V Of o k h hn
set_option maxRecDepth 100000 in
set_option maxHeartbeats 1000000 in
theorem drop_any (w : World) (p s : Nat) (v : Value) (V : Nat → Value) (Of : List Int) (o : Int) (h : At w p s v V Of) :
    Calls Tryd.prog 16 #[.pointer (some ⟨p, 0, none⟩), .int .i64 o] w (TurnR w p s v V (shrinkM Of o 0) (shrinkE Of o 0) (shrinkO Of o 0)) := by
  have q := shrink_any w p s v V Of o 0 h
  generalize shrinkM Of o 0 = M at *
  generalize shrinkE Of o 0 = E at *
  generalize shrinkO Of o 0 = O at *
  clear h
  go_enter Tryd.func16, Tryd.ntmps16
  go_wp2_with fail
  refine q.mono ?_
  rintro e w1 ⟨u, V', rfl, hF⟩
  have HF := Hid.of hF
  clear q hF
  go_wp2
  go_ret2
  exact ⟨_, _, rfl, HF.out⟩
def CopyR (w : World) (V : Nat → Value) (Of : List Int) (e : Ending) (w' : World) : Prop := ∃ p' s' v', e = .returned (.pointer (some ⟨p', 0, none⟩)) ∧ At w' p' s' v' V Of ∧ (∀ x, Fp p' s' v' x → w.heap.size ≤ x) ∧ Keeps (fun _ => False) w w'
theorem nine_old {F : Nat → Prop} {w w' : World} {p : Nat} {c : Array Value} {t : TypeId} (k : Keeps F w w') (hf : ¬ F p) (h : w.heap[p]? = some (.cells c t (0, 0))) : w'.heap[p]? = some (.cells c t (0, 0)) := k.at h hf
set_option maxRecDepth 100000 in
set_option maxHeartbeats 2000000 in
theorem copy_any (w : World) (p s : Nat) (v : Value) (V : Nat → Value) (Of : List Int) (h : At w p s v V Of) (hT : Sh.Tab w) :
    Calls Tryd.prog 19 #[.pointer (some ⟨p, 0, none⟩)] w (CopyR w V Of) := by
  have q := Sh.copy_any w.drew s v (fr Of) (h.shelf.old ((Keeps.refl _ w).drew))
  have lp : p < w.heap.size := lt_of h.cells
  obtain ⟨A0, d0, v0, -⟩ := h.row 0 (by omega)
  obtain ⟨n0, m0⟩ : ∃ n, (win Of (0 : Nat)).length = n := ⟨_, rfl⟩
  rw [m0] at v0
  obtain ⟨A1, d1, v1, -⟩ := h.row 1 (by omega)
  obtain ⟨n1, m1⟩ : ∃ n, (win Of (1 : Nat)).length = n := ⟨_, rfl⟩
  rw [m1] at v1
  obtain ⟨A2, d2, v2, -⟩ := h.row 2 (by omega)
  obtain ⟨n2, m2⟩ : ∃ n, (win Of (2 : Nat)).length = n := ⟨_, rfl⟩
  rw [m2] at v2
  obtain ⟨A3, d3, v3, -⟩ := h.row 3 (by omega)
  obtain ⟨n3, m3⟩ : ∃ n, (win Of (3 : Nat)).length = n := ⟨_, rfl⟩
  rw [m3] at v3
  obtain ⟨A4, d4, v4, -⟩ := h.row 4 (by omega)
  obtain ⟨n4, m4⟩ : ∃ n, (win Of (4 : Nat)).length = n := ⟨_, rfl⟩
  rw [m4] at v4
  obtain ⟨A5, d5, v5, -⟩ := h.row 5 (by omega)
  obtain ⟨n5, m5⟩ : ∃ n, (win Of (5 : Nat)).length = n := ⟨_, rfl⟩
  rw [m5] at v5
  obtain ⟨A6, d6, v6, -⟩ := h.row 6 (by omega)
  obtain ⟨n6, m6⟩ : ∃ n, (win Of (6 : Nat)).length = n := ⟨_, rfl⟩
  rw [m6] at v6
  obtain ⟨A7, d7, v7, -⟩ := h.row 7 (by omega)
  obtain ⟨n7, m7⟩ : ∃ n, (win Of (7 : Nat)).length = n := ⟨_, rfl⟩
  rw [m7] at v7
  have hc := h.cells
  rw [v0, v1, v2, v3, v4, v5, v6, v7] at hc
  have HH := Hid.of h
  have HL := Hid.of (And.intro hT.lt h.vlt)
  have HV := Hid.of (And.intro v0 (And.intro v1 (And.intro v2 (And.intro v3 (And.intro v4 (And.intro v5 (And.intro v6 v7)))))))
  have HC := Hid.of hc
  obtain ⟨e0, e1, e2, e3, e4, e5, e6, e7, e8⟩ : w.cell? ⟨p, 0, none⟩ = some (.pointer (some ⟨s, 0, none⟩)) ∧ w.cell? ⟨p, 1, none⟩ = some (.slice A0 n0 d0) ∧ w.cell? ⟨p, 2, none⟩ = some (.slice A1 n1 d1) ∧ w.cell? ⟨p, 3, none⟩ = some (.slice A2 n2 d2) ∧ w.cell? ⟨p, 4, none⟩ = some (.slice A3 n3 d3) ∧ w.cell? ⟨p, 5, none⟩ = some (.slice A4 n4 d4) ∧ w.cell? ⟨p, 6, none⟩ = some (.slice A5 n5 d5) ∧ w.cell? ⟨p, 7, none⟩ = some (.slice A6 n6 d6) ∧ w.cell? ⟨p, 8, none⟩ = some (.slice A7 n7 d7) := ⟨cell_of hc 0 rfl, cell_of hc 1 rfl, cell_of hc 2 rfl, cell_of hc 3 rfl, cell_of hc 4 rfl, cell_of hc 5 rfl, cell_of hc 6 rfl, cell_of hc 7 rfl, cell_of hc 8 rfl⟩
  clear h hT v0 v1 v2 v3 v4 v5 v6 v7 m0 m1 m2 m3 m4 m5 m6 m7 hc
  go_enter Tryd.func19, Tryd.ntmps19
  go_wp2
  go_region_held3 (fun wx => wx.cell? ⟨p, 0, none⟩ = some (.pointer (some ⟨s, 0, none⟩)) ∧ wx.cell? ⟨p, 1, none⟩ = some (.slice A0 n0 d0) ∧ wx.cell? ⟨p, 2, none⟩ = some (.slice A1 n1 d1) ∧ wx.cell? ⟨p, 3, none⟩ = some (.slice A2 n2 d2) ∧ wx.cell? ⟨p, 4, none⟩ = some (.slice A3 n3 d3) ∧ wx.cell? ⟨p, 5, none⟩ = some (.slice A4 n4 d4) ∧ wx.cell? ⟨p, 6, none⟩ = some (.slice A5 n5 d5) ∧ wx.cell? ⟨p, 7, none⟩ = some (.slice A6 n6 d6) ∧ wx.cell? ⟨p, 8, none⟩ = some (.slice A7 n7 d7))
    (first | exact ⟨e0, e1, e2, e3, e4, e5, e6, e7, e8⟩ | exact ⟨cell_of z0 0 rfl, cell_of z0 1 rfl, cell_of z0 2 rfl, cell_of z0 3 rfl, cell_of z0 4 rfl, cell_of z0 5 rfl, cell_of z0 6 rfl, cell_of z0 7 rfl, cell_of z0 8 rfl⟩ | exact ⟨cell_of z1 0 rfl, cell_of z1 1 rfl, cell_of z1 2 rfl, cell_of z1 3 rfl, cell_of z1 4 rfl, cell_of z1 5 rfl, cell_of z1 6 rfl, cell_of z1 7 rfl, cell_of z1 8 rfl⟩)
    (first | (go_at_call 42; refine q.mono ?_; rintro e w1 ⟨s', v', rfl, h1, hf1, k1⟩; have z0 := k1.of_drew.at HC.out (fun x => x); have z1 := ((Keeps.refl (fun _ => False) w1).alloc (.cells #[.pointer (some ⟨s', 0, none⟩), .slice A0 n0 d0, .slice A1 n1 d1, .slice A2 n2 d2, .slice A3 n3 d3, .slice A4 n4 d4, .slice A5 n5 d5, .slice A6 n6 d6, .slice A7 n7 d7] 72)).at z0 (fun x => x); have HF := Hid.of (And.intro h1 (And.intro hf1 k1)); clear h1 hf1 k1))
  go_wp2
  go_ret
  obtain ⟨h1, hf1, k1⟩ := HF.out
  obtain ⟨v0, v1, v2, v3, v4, v5, v6, v7⟩ := HV.out
  have h := HH.out
  have hs1 : w.heap.size ≤ w1.heap.size := k1.size
  have ka : Keeps (fun _ => False) w1 (w1.alloc (.cells #[.pointer (some ⟨s', 0, none⟩), .slice A0 n0 d0, .slice A1 n1 d1, .slice A2 n2 d2, .slice A3 n3 d3, .slice A4 n4 d4, .slice A5 n5 d5, .slice A6 n6 d6, .slice A7 n7 d7] 72)) := (Keeps.refl _ _).alloc _
  have K : Keeps (fun _ => False) w (w1.alloc (.cells #[.pointer (some ⟨s', 0, none⟩), .slice A0 n0 d0, .slice A1 n1 d1, .slice A2 n2 d2, .slice A3 n3 d3, .slice A4 n4 d4, .slice A5 n5 d5, .slice A6 n6 d6, .slice A7 n7 d7] 72)) := k1.of_drew.trans ka
  have hf : ∀ x, Fp w1.heap.size s' v' x → w.heap.size ≤ x := fun x hx => by
    rcases hx with rfl | hx
    · exact hs1
    · exact hf1 x hx
  refine ⟨_, s', v', rfl, ⟨?_, h1.old ka, fun hx => ?_, fun i hi => (h.row i hi).old K, fun i hi g hg hx => ?_, h.len, fun hx => ?_, fun i hi g hg => Nat.lt_of_lt_of_le (h.vlt i hi g hg) K.size⟩, hf, K⟩
  · rw [v0, v1, v2, v3, v4, v5, v6, v7]; exact alloc_new w1 _
  · have := h1.lt hx; omega
  · have := HL.out.2 i hi g hg; have := hf g hx; omega
  · have := HL.out.1; have := hf _ hx; omega
end Po
end Go.Proofs.YtcjdejhjbelggaaDoor
