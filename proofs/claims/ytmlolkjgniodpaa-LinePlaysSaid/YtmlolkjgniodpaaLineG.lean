/- The document's line (garthref13): a list in a struct's one field. -/
import Derived.Test.YtmlolkjgniodpaaLineF
import Derived.Laws.EntriesVeiled
set_option linter.unusedVariables false
set_option linter.unusedSimpArgs false
namespace Go.Proofs.Ytmlolkjgniodpaa
open Go.RowKit Go.ChangeMaps
namespace RLine
def At (w : World) (b : Nat) (v : Value) (L : List Int) : Prop :=
  w.heap[b]? = some (.cells #[v] 65 (0, 0)) ∧ Own w 3 1 v L.length (ints L) ∧ v.ownBlock ≠ some b
theorem At.keep {F : Nat → Prop} {w w' : World} {b : Nat} {v : Value} {L : List Int} (h : At w b v L) (hk : Keeps F w w') (hb : ¬ F b) (hv : ∀ g, v.ownBlock = some g → ¬ F g) : At w' b v L :=
  ⟨hk.at h.1 hb, h.2.1.keep hk hv, h.2.2⟩
theorem At.old {w w' : World} {b : Nat} {v : Value} {L : List Int} (h : At w b v L) (hk : Keeps (fun _ => False) w w') : At w' b v L := h.keep hk (fun x => x) (fun _ _ x => x)

set_option maxRecDepth 100000 in
set_option maxHeartbeats 1000000 in
theorem has_any (w : World) (b : Nat) (v : Value) (L : List Int) (k : Int) (h : At w b v L) :
    Calls Try.prog 43 #[.pointer (some ⟨b, 0, none⟩), .int .i64 k] w fun e w' => e = .returned (.bool (decide (k ∈ L))) ∧ Keeps (fun _ => False) w w' := by
  obtain ⟨hb, ho, hne⟩ := h
  have hlen := ho.maxLen
  unfold maxLen at hlen
  obtain ⟨A, cap, rfl, hcap, hA, rd⟩ := ho.rd
  have c0 := cell_of hb 0 rfl
  clear hb ho hne
  go_enter Try.func43, Try.ntmps43
  go_wp2
  go_loop [5] (fun i => ∃ j : Nat, j ≤ L.length ∧ i = .int .i64 j ∧ Hid (k ∉ L.take j)) (fun i => L.length - (intOf i).toNat)
  case atStart => exact ⟨0, Nat.zero_le _, rfl, by show _ ∉ _; simp⟩
  case round =>
    obtain ⟨j, hj, rfl, hT⟩ := hrel
    by_cases hlt : j < L.length
    · obtain ⟨b1, o1, s1, rfl, hc1⟩ := rd_int rd j hlt
      have hk1 : decide ((j : Int) < L.length) = true := by simp; omega
      have E1 := Hid.of (Line.take_snoc L j hlt)
      have hin : L.getD j 0 ∈ L := by simp [List.getD_eq_getElem?_getD, List.getElem?_eq_getElem hlt]
      have HIN := Hid.of hin
      clear hin
      generalize L.getD j 0 = x at *
      by_cases hxk : x = k
      · have hxk' : (x == k) = true := by simp [hxk]
        have HX := Hid.of hxk
        clear hxk
        go_wp2
        go_ret
        refine ⟨?_, Keeps.refl _ _⟩
        have : decide (k ∈ L) = true := by simp; rw [← HX.out]; exact HIN.out
        rw [this]; rfl
      · have hxk' : (x == k) = false := by simp [hxk]
        have HX := Hid.of hxk
        clear hxk
        go_wp2
        go_round
        case rel => exact ⟨j + 1, by omega, by go_num, by show _ ∉ _; rw [E1.out]; simp; exact ⟨hT.out, fun e => HX.out e.symm⟩⟩
        case measure => simp [intOf]; omega
    · have hje : j = L.length := by omega
      have hk1 : decide ((j : Int) < L.length) = false := by simp; omega
      have HJ := Hid.of hje
      clear hje
      go_wp2
      go_ret
      refine ⟨?_, Keeps.refl _ _⟩
      have := hT.out
      rw [HJ.out, List.take_length] at this
      have : decide (k ∈ L) = false := by simp; exact this
      rw [this]; rfl

set_option maxRecDepth 100000 in
set_option maxHeartbeats 1000000 in
theorem front_any (w : World) (b : Nat) (v : Value) (L : List Int) (h : At w b v L) :
    Calls Try.prog 42 #[.pointer (some ⟨b, 0, none⟩)] w fun e w' => e = .returned (.int .i64 (Line.hd L)) ∧ w = w' := by
  obtain ⟨hb, ho, hne⟩ := h
  obtain ⟨A, cap, rfl, hcap, hA, rd⟩ := ho.rd
  have c0 := cell_of hb 0 rfl
  clear hb ho hne
  cases L with
  | nil =>
    go_enter Try.func42, Try.ntmps42
    go_wp2
    go_ret
    exact ⟨rfl, rfl⟩
  | cons x r =>
    obtain ⟨b1, o1, s1, rfl, hc1⟩ := rd_int rd 0 (by simp)
    rw [Line.hd_cons]
    simp only [List.getD_cons_zero] at hc1
    rw [show (⟨b1, o1, s1⟩ : Addr).add 0 = ⟨b1, o1, s1⟩ from rfl] at hc1
    obtain ⟨n, hn⟩ : ∃ n, (x :: r).length = n + 1 := ⟨r.length, rfl⟩
    rw [hn] at c0
    clear hn
    have hn' : (((n + 1 : Nat) : Int) == 0) = false := by simp; omega
    have hn2 : 0 < n + 1 := by omega
    generalize ((n + 1 : Nat)) = q at *
    go_enter Try.func42, Try.ntmps42
    go_wp2
    go_ret
    exact ⟨rfl, rfl⟩

set_option maxRecDepth 100000 in
set_option maxHeartbeats 1000000 in
theorem push_any (w : World) (b : Nat) (v : Value) (L : List Int) (k : Int) (h : At w b v L) (hlen : L.length ≤ 1000000) :
    Calls Try.prog 39 #[.pointer (some ⟨b, 0, none⟩), .int .i64 k] w fun e w' => e = .returned (.int .i64 (Line.pushE L k)) ∧ (∃ v', At w' b v' (Line.pushL L k) ∧ (v'.ownBlock = v.ownBlock ∨ ∀ g, v'.ownBlock = some g → w.heap.size ≤ g)) ∧ Keeps (fun x => x = b ∨ v.ownBlock = some x) w w' := by
  unfold Line.pushE Line.pushL
  by_cases hk : k < 0
  · rw [if_pos hk, if_pos hk]
    have hpost : (∃ v', At w b v' L ∧ (v'.ownBlock = v.ownBlock ∨ ∀ g, v'.ownBlock = some g → w.heap.size ≤ g)) := ⟨v, h, .inl rfl⟩
    have HP := Hid.of hpost
    clear hpost h
    go_enter Try.func39, Try.ntmps39
    go_wp2
    go_ret
    exact ⟨rfl, HP.out, Keeps.refl _ _⟩
  · rw [if_neg hk, if_neg hk]
    by_cases hm : k ∈ L
    · rw [if_pos hm, if_pos hm]
      have hd : decide (k ∈ L) = true := by simpa using hm
      have hc := has_any w b v L k h
      rw [hd] at hc
      clear hm hd
      go_enter Try.func39, Try.ntmps39
      go_wp2_with fail
      refine hc.mono ?_
      rintro e w1 ⟨rfl, k1⟩
      have hpost : (∃ v', At w1 b v' L ∧ (v'.ownBlock = v.ownBlock ∨ ∀ g, v'.ownBlock = some g → w.heap.size ≤ g)) := ⟨v, h.old k1, .inl rfl⟩
      have HP := Hid.of hpost
      clear hpost h
      go_wp2
      go_ret
      exact ⟨rfl, HP.out, k1.mono (fun x _ hx => hx.elim)⟩
    · rw [if_neg hm, if_neg hm]
      have hd : decide (k ∈ L) = false := by simpa using hm
      have hc := has_any w b v L k h
      rw [hd] at hc
      clear hm hd
      go_enter Try.func39, Try.ntmps39
      go_wp2_with fail
      refine hc.mono ?_
      rintro e w1 ⟨rfl, k1⟩
      obtain ⟨hb, ho, hne⟩ := h.old k1
      have c0 := cell_of hb 0 rfl
      have hbl := lt_of hb
      have h1s := k1.size
      go_wp2_with (at_builtin; refine wpList_app1 slInts w1 rfl _ _ rfl v L.length (ints L) rfl ho [.int .i64 k] rfl rfl (by simp [Value.oneCell']) (by unfold maxLen; omega) (by omega) ?_; intro v1 w2 o2 k2 hat1; have hb2 := k2.at hb (fun e => hne e); have d0 := cell_of hb2 0 rfl; have g0 := free_of hb2 0; obtain ⟨A1, cap1, hv1, hcap1, hA1, hrd1⟩ := o2.rd; rw [hv1])
      have hb3 := set_of hb2 0 v1
      rw [← hv1]
      go_ret
      refine ⟨rfl, ⟨v1, ⟨by simpa using hb3, ?_, ?_⟩, ?_⟩, ?_⟩
      · rw [List.length_append, ints_append]
        refine Own.setCell o2 _ _ ?_
        rcases hat1 with e | e
        · rw [e]; exact hne
        · rw [e]; simp; omega
      · rcases hat1 with e | e
        · rw [e]; exact hne
        · rw [e]; simp; omega
      · rcases hat1 with e | e
        · exact .inl e
        · exact .inr fun g hg => by rw [e] at hg; cases hg; omega
      · have k1' : Keeps (fun x => x = b ∨ v.ownBlock = some x) w w1 := k1.mono (fun x _ hx => hx.elim)
        exact (k1'.trans' k2 (fun x hx _ => .inr hx)).setCell _ _ (.inl (.inl rfl))

set_option maxRecDepth 100000 in
set_option maxHeartbeats 2000000 in
theorem remove_any (w : World) (b : Nat) (v : Value) (L : List Int) (kk : Int) (h : At w b v L) (hlen : L.length ≤ 1000000) :
    Calls Try.prog 40 #[.pointer (some ⟨b, 0, none⟩), .int .i64 kk] w fun e w' => e = .returned (.int .i64 (Line.removeE L kk)) ∧ (∃ v', At w' b v' (Line.removeL L kk) ∧ (v'.ownBlock = v.ownBlock ∨ ∀ g, v'.ownBlock = some g → w.heap.size ≤ g)) ∧ Keeps (fun x => x = b ∨ v.ownBlock = some x) w w' := by
  by_cases hm : kk ∈ L
  · have he : Line.removeE L kk = 0 := by unfold Line.removeE; rw [if_pos hm]
    rw [he]
    have hd : decide (kk ∈ L) = true := by simpa using hm
    have hc := has_any w b v L kk h
    rw [hd] at hc
    clear hm hd he
    go_enter Try.func40, Try.ntmps40
    go_wp2_with fail
    refine hc.mono ?_
    rintro e w1 ⟨rfl, k1⟩
    have h1 := h.old k1
    have h1s := k1.size
    have hlt1 := lt_of h1.1
    obtain ⟨A, cap, hv, hcap, hA, rd⟩ := h1.2.1.rd
    have hb := h1.1
    have c1 := cell_of hb 0 rfl
    have HB1 := Hid.of hb
    have hne := h1.2.2
    have HV := Hid.of hv
    clear hb h1 h
    rw [hv] at c1
    clear hv
    go_wp2_with fail
    go_loopw [5, 6] (fun o i w2 => ∃ j : Nat, j ≤ L.length ∧ i = .int .i64 j ∧ Own w2 3 1 o (Line.removeL (L.take j) kk).length (ints (Line.removeL (L.take j) kk)) ∧ (∀ g, o.ownBlock = some g → w1.heap.size ≤ g) ∧ Keeps (fun _ => False) w1 w2) (fun _ i _ => L.length - (intOf i).toNat)
    case atStart => exact ⟨0, Nat.zero_le _, rfl, Own.nil _ _ _, by simp [Value.ownBlock], Keeps.refl _ _⟩
    case round =>
      obtain ⟨j, hj, rfl, o2, f2, k2⟩ := hrel
      have c2 := cell_of (k2.at HB1.out (fun x => x)) 0 rfl
      rw [HV.out] at c2
      have rd2 := rd.old k2
      by_cases hlt : j < L.length
      · obtain ⟨b1, o1, s1, rfl, hc1⟩ := rd_int rd2 j hlt
        have hk1 : decide ((j : Int) < L.length) = true := by simp; omega
        have ET := Hid.of (Line.removeL_take L kk j hlt)
        have hwl : (Line.removeL (L.take j) kk).length ≤ 1000000 := by
          have := List.length_filter_le (fun x => !(x == kk)) (L.take j)
          unfold Line.removeL; simp only [List.length_take] at this; omega
        generalize L.getD j 0 = x at *
        by_cases hxk : x = kk
        · have hxk' : (x != kk) = false := by simp [hxk]
          have HX := Hid.of hxk
          clear hxk
          go_wp2
          go_roundw
          case rel => exact ⟨j + 1, by omega, by go_num, by rw [ET.out, if_pos HX.out]; exact o2, f2, k2⟩
          case measure => simp [intOf]; omega
        · have hxk' : (x != kk) = true := by simp [hxk]
          have HX := Hid.of hxk
          clear hxk
          go_wp2_with (at_builtin; refine wpList_app1 slInts _ rfl _ _ rfl u5 (Line.removeL (L.take j) kk).length (ints (Line.removeL (L.take j) kk)) rfl o2 [.int .i64 x] rfl rfl (by simp [Value.oneCell']) (by unfold maxLen; omega) (by omega) ?_; intro v3 w3 o3 k3 hat3)
          go_roundw
          case rel =>
            refine ⟨j + 1, by omega, by go_num, by rw [ET.out, if_neg HX.out, List.length_append, ints_append]; exact o3, ?_, k2.trans' k3 (fun x hx hl => by have := f2 _ hx; omega)⟩
            intro g hg
            rcases hat3 with e | e
            · exact f2 g (by rw [← e]; exact hg)
            · rw [e] at hg; cases hg
              have := k2.size; omega
          case measure => simp [intOf]; omega
      · have hje : j = L.length := by omega
        have hk1 : decide ((j : Int) < L.length) = false := by simp; omega
        rw [hje, List.take_length] at o2
        clear hje
        have hb2 := k2.at HB1.out (fun x => x)
        have g2 := free_of hb2 0
        obtain ⟨A5, cap5, hv5, _, hA5, _⟩ := o2.rd
        have HB2 := Hid.of hb2
        clear hb2
        have hown5 : ∀ g, u5.ownBlock = some g → g ≠ b := fun g hg => by have := f2 g hg; omega
        have HO := Hid.of hown5
        have HF := Hid.of f2
        clear hown5 f2
        subst hv5
        go_wp2
        have hb3 := set_of HB2.out 0 (.slice A5 (Line.removeL L kk).length cap5)
        go_ret
        refine ⟨rfl, ⟨_, ⟨by simpa using hb3, o2.setCell _ _ (fun e => HO.out _ e rfl), fun e => HO.out _ e rfl⟩, ?_⟩, ?_⟩
        · exact .inr fun g hg => by have := HF.out g hg; omega
        · have k1' : Keeps (fun x => x = b ∨ v.ownBlock = some x) w w1 := k1.mono (fun x _ hx => hx.elim)
          exact (k1'.trans' k2 (fun x hx _ => hx.elim)).setCell _ _ (.inl (.inl rfl))
  · have he : Line.removeE L kk = 13 := by unfold Line.removeE; rw [if_neg hm]
    have hl : Line.removeL L kk = L := List.filter_eq_self.2 fun x hx => by simp; rintro rfl; exact hm hx
    rw [he, hl]
    have hd : decide (kk ∈ L) = false := by simpa using hm
    have hc := has_any w b v L kk h
    rw [hd] at hc
    clear hm hd he hl
    go_enter Try.func40, Try.ntmps40
    go_wp2_with fail
    refine hc.mono ?_
    rintro e w1 ⟨rfl, k1⟩
    have hpost : (∃ v', At w1 b v' L ∧ (v'.ownBlock = v.ownBlock ∨ ∀ g, v'.ownBlock = some g → w.heap.size ≤ g)) := ⟨v, h.old k1, .inl rfl⟩
    have HP := Hid.of hpost
    clear hpost h
    go_wp2
    go_ret
    exact ⟨rfl, HP.out, k1.mono (fun x _ hx => hx.elim)⟩
end RLine
end Go.Proofs.Ytmlolkjgniodpaa
