/- TablePieces' walk. -/
import Derived.Test.YtmlolkjgniodpaaTabQ
set_option linter.unusedVariables false
set_option linter.unusedSimpArgs false
namespace Go.Proofs.Ytmlolkjgniodpaa
open Go.RowKit Go.ChangeMaps
theorem zero_bool (w : World) : (zeroValue 4).run Try.prog w = .ok (.bool false) w := by kernel_rfl
namespace Tab
def marks (L : List Sp) : List (Int × Bool) := L.map fun s => (page s, true)
theorem eget_marks (L : List Sp) (k : Int) (h : k ∉ L.map page) : eget (marks L) k = none := by
  induction L with
  | nil => rfl
  | cons s L ih =>
    simp only [List.map_cons, List.mem_cons, not_or] at h
    show eget ((page s, true) :: marks L) k = none
    rw [eget_cons, if_neg (fun e => h.1 e.symm)]
    exact ih h.2
theorem eset_marks (L : List Sp) (s : Sp) (h : page s ∉ L.map page) : eset (marks L) (page s) true = marks (L ++ [s]) := by
  unfold eset
  rw [← eget_isSome, eget_marks L _ h]
  simp [marks]

theorem bytes_ge {G : Prs} {lo : Int} (L : List Sp) (h : ∀ s ∈ L, Piece G lo s) : (L.length : Int) ≤ bytes L := by
  induction L with
  | nil => simp [bytes]
  | cons s L ih =>
    rw [bytes_cons]
    have h1 := h s (by simp)
    have := ih (fun t ht => h t (by simp [ht]))
    unfold Piece at h1
    simp only [List.length_cons]; omega
theorem notMem_of_nodup {L M : List Sp} {s : Sp} (h : ((L ++ s :: M).map page).Nodup) : page s ∉ L.map page := by
  simp only [List.map_append, List.map_cons] at h
  intro hm
  rw [List.nodup_append] at h
  exact h.2.2 _ hm _ (by simp) rfl

set_option maxRecDepth 100000 in
set_option maxHeartbeats 8000000 in
theorem tablePieces_any (w : World) (A : Option Addr) (cap : Nat) (xs : List TOp) (a0 n0 : Int) (ha : Rd w A (xs.flatMap TOp.enc)) (hx : xs.length ≤ maxLen) :
    Calls Try.prog 9 #[.slice A xs.length cap, .int .i64 a0, .int .i64 n0] w fun e w' => e = .returned (.bool true) ∧ Below w.heap.size w w' := by
  unfold maxLen at hx
  by_cases hb : xs.length ≤ 200 ∧ n0 ≤ 16384
  · obtain ⟨hb, hn0⟩ := hb
    have hb' : decide ((xs.length : Int) > 200) = false := by simp; omega
    go_enter Try.func9, Try.ntmps9
    go_wp2_with fail
    refine (tb_new w).mono ?_
    rintro e w1 ⟨b, m, n, rfl, t1, k1⟩
    go_wp2_with fail
    refine (awake_any w1).mono ?_
    rintro e w2 ⟨rfl, k2⟩
    have t2 := t1.old k2
    have k02 := k1.trans k2
    clear t1 k1 k2
    go_wp2_with fail
    go_loopw [36] (fun i wr => ∃ (j : Nat) (E G : Prs), j ≤ xs.length ∧ i = .int .i64 j ∧ Tb w.heap.size wr b m n E G ∧ Keeps (fun _ => False) w wr) (fun i _ => xs.length - (intOf i).toNat)
    case atStart => exact ⟨0, [], [], Nat.zero_le _, rfl, t2, k02⟩
    case round =>
      clear t2 k02
      obtain ⟨j, E, G, hj, rfl, t, kp⟩ := hrel
      by_cases hlt : j < xs.length
      · obtain ⟨b1, o1, s1, kind, vv, pp, rfl, hc1, hc2, hc3⟩ := op_cells (Rd.old ha kp) j hlt
        have hk1 : decide ((j : Int) < xs.length) = true := by simp; omega
        obtain ⟨w4, hw4⟩ : ∃ w4, wr.alloc (.cells #[.int .i64 kind, .int .i64 vv, .int .i64 pp] 56) = w4 := ⟨_, rfl⟩
        have k4 : Keeps (fun _ => False) wr w4 := by rw [← hw4]; exact (Keeps.refl _ _).alloc _
        have hob : w4.heap[wr.heap.size]? = some (.cells #[.int .i64 kind, .int .i64 vv, .int .i64 pp] 56 (0, 0)) := by rw [← hw4]; exact alloc_new _ _
        have d0 := cell_of hob 0 rfl
        have d1 := cell_of hob 1 rfl
        have d2 := cell_of hob 2 rfl
        have t4 := t.old k4
        have k04 := kp.trans k4
        by_cases hk2 : kind = 1
        · have e1 : (kind == 1) = true := by simpa using hk2
          clear hk2
          go_wp2_with fail
          refine (tb_map vv pp t4).mono ?_
          rintro e w5 ⟨rfl, t5, k5⟩
          have k05 := t4.fresh k04 (Nat.le_refl _) k5
          go_wp2
          go_roundw
          case rel => exact ⟨j + 1, _, _, by omega, by go_num, t5, k05⟩
          case measure => simp [intOf]; omega
        · have e1 : (kind == 1) = false := by simpa using hk2
          clear hk2
          by_cases hk2 : kind = 2
          · have e2 : (kind == 2) = true := by simpa using hk2
            clear hk2
            go_wp2_with fail
            refine (tb_unmap vv t4).mono ?_
            rintro e w5 ⟨rfl, t5, k5⟩
            have k05 := t4.fresh k04 (Nat.le_refl _) k5
            go_wp2
            go_roundw
            case rel => exact ⟨j + 1, _, _, by omega, by go_num, t5, k05⟩
            case measure => simp [intOf]; omega
          · have e2 : (kind == 2) = false := by simpa using hk2
            clear hk2
            go_wp2_with fail
            refine (tb_swap vv pp t4).mono ?_
            rintro e w5 ⟨rfl, t5, k5⟩
            have k05 := t4.fresh k04 (Nat.le_refl _) k5
            go_wp2
            go_roundw
            case rel => exact ⟨j + 1, _, _, by omega, by go_num, t5, k05⟩
            case measure => simp [intOf]; omega
      · have hk1 : decide ((j : Int) < xs.length) = false := by simp; omega
        have q1 := pieces_any wr b m n E G a0 n0 t.1 t.2.1.le
        have HP := Hid.of (fun L (h : pieces E a0 n0 = some L) => pieces_law t.2.1 h)
        generalize pieces E a0 n0 = r at *
        cases r with
        | none =>
          rw [show code none = 4 from rfl, show (none : Option (List Sp)).getD [] = [] from rfl] at q1
          clear HP
          go_wp2_with fail
          refine q1.mono ?_
          rintro e w5 ⟨v, rfl, o5, k5⟩
          obtain ⟨A2, cap2, rfl, -⟩ := o5.rd
          go_wp2
          go_ret
          exact ⟨rfl, (kp.trans k5).below⟩
        | some L =>
          rw [show code (some L) = 0 from rfl, show (some L).getD [] = L from rfl] at q1
          obtain ⟨y1, y2, y3⟩ := HP.out L rfl
          clear HP
          go_wp2_with fail
          refine q1.mono ?_
          rintro e w5 ⟨v, rfl, o5, k5⟩
          have t5 := t.old k5
          have k05 := kp.trans k5
          obtain ⟨A2, cap2, rfl, -, hA2, r5⟩ := o5.rd
          have hsz := k05.size
          have hmm := @run_makeMap Try.prog
          obtain ⟨s, hs⟩ : ∃ s, w5.heap.size = s := ⟨_, rfl⟩
          have hM := EMap.new Value.bool w5
          obtain ⟨w6, hw6⟩ : ∃ w6, w5.alloc (.map #[] 0) = w6 := ⟨_, rfl⟩
          rw [hw6, hs] at hM
          have k6 : Keeps (fun _ => False) w5 w6 := by rw [← hw6]; exact (Keeps.refl _ _).alloc _
          have k06 := k05.trans k6
          have t6 := t5.old k6
          have r6 := r5.old k6
          have hlt6 := t5.1.lt
          have hA2' : ∀ ad, A2 = some ad → ad.block < s := fun ad e => by have := (hA2 ad e).2; omega
          have hL1 : (L.length : Int) ≤ 16384 := by have := bytes_ge L y1; omega
          have hbs : b < s ∧ m < s ∧ n < s ∧ w.heap.size ≤ s := by have := t5.1.lt; omega
          have Y3 := Hid.of y3
          have Y2 := Hid.of y2
          clear hA2 y3 y2 t kp k5 o5 t5 k05 r5 hlt6 hsz q1
          go_wp2_with fail
          go_loopw [12, 82] (fun al i wr => ∃ (j : Nat), j ≤ L.length ∧ i = .int .i64 j ∧ al = .int .i64 (bytes (L.take j)) ∧ EMap Value.bool wr s (marks (L.take j)) ∧ Tb w.heap.size wr b m n E G ∧ Rd wr A2 (spans L) ∧ Keeps (fun _ => False) w wr) (fun _ i _ => L.length - (intOf i).toNat)
          case atStart => exact ⟨0, Nat.zero_le _, rfl, rfl, hM, t6, r6, k06⟩
          case round =>
            clear hM t6 r6 k06 k6 hw6 hmm
            obtain ⟨j2, hj2, rfl, rfl, hM, t6, r6, k06⟩ := hrel
            by_cases hlt2 : j2 < L.length
            · obtain ⟨b1, o1, s1, x, y, z, hg, rfl, hc1, hc2, hc3⟩ := sp_cells r6 j2 hlt2
              have hk2 : decide ((j2 : Int) < L.length) = true := by simp; omega
              have hp := y1 _ (List.mem_of_getElem? hg)
              unfold Piece at hp
              simp only [page] at hp
              have hT : L.take (j2 + 1) = L.take j2 ++ [⟨x, y, z⟩] := by rw [List.take_add_one, hg]; rfl
              have hnm : x / 512 ∉ (L.take j2).map page := by
                have e : L = L.take j2 ++ (⟨x, y, z⟩ : Sp) :: L.drop (j2 + 1) := by
                  have := List.take_append_drop (j2 + 1) L
                  rw [hT] at this
                  simpa using this.symm
                have h2 := Y2.out
                rw [e] at h2
                exact notMem_of_nodup h2
              have hbt : 0 ≤ bytes (L.take j2) ∧ bytes (L.take j2) ≤ 16384 := by
                have h1 := bytes_ge (L.take j2) (fun s hs => y1 s (List.mem_of_mem_take hs))
                have h2 := bytes_ge (L.drop j2) (fun s hs => y1 s (List.mem_of_mem_drop hs))
                have h3 : bytes L = bytes (L.take j2) + bytes (L.drop j2) := by rw [← bytes_append, List.take_append_drop]
                have := Y3.out
                omega
              have e1 := tdiv_eq x (by omega)
              have e2 := tmod_eq x (by omega)
              have hl1 := eget_marks _ _ hnm
              have hl2 := eset_marks (L.take j2) ⟨x, y, z⟩ hnm
              simp only [page] at hl2
              have HT : Hid (L.take (j2 + 1) = L.take j2 ++ [⟨x, y, z⟩]) := hT
              have HB : Hid (bytes (L.take (j2 + 1)) = bytes (L.take j2) + y) := by refine Hid.of ?_; rw [hT, bytes_append, bytes_cons, bytes_nil]; simp
              obtain ⟨w7, hw7⟩ : ∃ w7, wr.alloc (.cells #[.int .i64 x, .int .i64 y, .bool z] 75) = w7 := ⟨_, rfl⟩
              have k7 : Keeps (fun _ => False) wr w7 := by rw [← hw7]; exact (Keeps.refl _ _).alloc _
              have hob : w7.heap[wr.heap.size]? = some (.cells #[.int .i64 x, .int .i64 y, .bool z] 75 (0, 0)) := by rw [← hw7]; exact alloc_new _ _
              have hsob : s < wr.heap.size := hM.lt
              have d0 := cell_of hob 0 rfl
              have d1 := cell_of hob 1 rfl
              have M7 := hM.keep k7 (fun x => x)
              have lk := M7.look (P := Try.prog) 3 Try.underlying73 Try.underlying3 (x / 512) (z := false) (zero_bool _)
              rw [hl1] at lk
              obtain ⟨w8, up, M8, k8⟩ := M7.upd (P := Try.prog) 3 Try.underlying73 Try.underlying3 (x / 512) true
              rw [hl2] at M8
              have d1' := cell_of (k8.at hob (by omega)) 1 rfl
              have t7 := t6.old k7
              have t8 : Tb w.heap.size w8 b m n E G := ⟨t7.1.keep k8 (by omega) (by omega) (by omega), t7.2⟩
              have k08 : Keeps (fun _ => False) w w8 := (k06.trans k7).trans' k8 (fun x hx hl => by omega)
              have r8 : Rd w8 (some ⟨b1, o1, s1⟩) (spans L) := by
                exact (r6.old k7).keep k8 (fun ad had hl e => by have := hA2' ad had; omega)
              clear hT hnm hl1 hl2
              have hq := hp.2.2.2.1
              obtain ⟨q, hqe⟩ : ∃ q, x / 512 = q := ⟨_, rfl⟩
              obtain ⟨o, hoe⟩ : ∃ o, x % 512 = o := ⟨_, rfl⟩
              rw [hqe] at hp hq e1 lk up
              rw [hoe] at hp e2
              have c1 := holder_any w7 b m n E G q t7.1
              generalize fnd G q = hv at *
              generalize bytes (L.take j2) = al at *
              go_wp2_with fail
              refine c1.mono ?_
              rintro e w9 ⟨rfl, rfl⟩
              go_wp2
              go_roundw
              case rel => exact ⟨j2 + 1, by omega, by go_num, by rw [HB.out], by rw [HT.out]; exact M8, t8, r8, k08⟩
              case measure => simp [intOf]; omega
            · have hk2 : decide ((j2 : Int) < L.length) = false := by simp; omega
              have hall : L.take j2 = L := List.take_of_length_le (by omega)
              have hal : bytes (L.take j2) = n0 := by rw [hall]; exact Y3.out
              rw [hal]
              have hnn := eqI n0
              clear hall hal hM
              go_wp2
              go_ret
              exact ⟨rfl, k06.below⟩
  · have hsp : ¬ xs.length ≤ 200 ∨ (xs.length ≤ 200 ∧ ¬ n0 ≤ 16384) := by omega
    clear hb
    rcases hsp with hb | ⟨hb, hn⟩
    · have hb' : decide ((xs.length : Int) > 200) = true := by simp; omega
      go_enter Try.func9, Try.ntmps9
      go_wp2_with fail
      refine (tb_new w).mono ?_
      rintro e w1 ⟨b, m, n, rfl, t1, k1⟩
      go_wp2_with fail
      refine (awake_any w1).mono ?_
      rintro e w2 ⟨rfl, k2⟩
      have k02 := k1.trans k2
      go_wp2_with fail
      refine (awake_any w2).mono ?_
      rintro e w3 ⟨rfl, k3⟩
      go_wp2
      go_ret
      exact ⟨rfl, (k02.trans k3).below⟩
    · have hb' : decide ((xs.length : Int) > 200) = false := by simp; omega
      go_enter Try.func9, Try.ntmps9
      go_wp2_with fail
      refine (tb_new w).mono ?_
      rintro e w1 ⟨b, m, n, rfl, t1, k1⟩
      go_wp2_with fail
      refine (awake_any w1).mono ?_
      rintro e w2 ⟨rfl, k2⟩
      have k02 := k1.trans k2
      go_wp2_with fail
      refine (awake_any w2).mono ?_
      rintro e w3 ⟨rfl, k3⟩
      go_wp2
      go_ret
      exact ⟨rfl, (k02.trans k3).below⟩
end Tab
end Go.Proofs.Ytmlolkjgniodpaa
