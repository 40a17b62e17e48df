/- The document's table (garthref15): Pieces, byte by byte. -/
import Derived.Test.YtcjdejhjbelggaaRTabQ
set_option linter.unusedVariables false
set_option linter.unusedSimpArgs false
namespace Go.Proofs.Ytcjdejhjbelggaa
open Go.RowKit Go.ChangeMaps
namespace RTab
open Tab (within code Out)
set_option maxRecDepth 100000 in
set_option maxHeartbeats 400000 in
theorem rwithin_any (w : World) (a n : Int) : Calls Try.prog 28 #[.int .i64 a, .int .i64 n] w fun e w' => e = .returned (.bool (within a n)) ∧ w = w' := by
  by_cases h : within a n = true
  · rw [h]
    obtain ⟨h1, h2, h3⟩ : 0 ≤ n ∧ 131072 ≤ a ∧ a + n ≤ 3276800 := by unfold within at h; simpa using h
    clear h
    have h4 : a ≤ 3276800 := by omega
    have h5 : n ≤ 3276800 - a := by omega
    go_enter Try.func28, Try.ntmps28
    go_wp2
    go_ret
    exact ⟨rfl, rfl⟩
  · have h' : within a n = false := by simpa using h
    rw [h']
    have hc : n < 0 ∨ (0 ≤ n ∧ a < 131072) ∨ (0 ≤ n ∧ 131072 ≤ a ∧ 3276800 < a) ∨ (0 ≤ n ∧ 131072 ≤ a ∧ a ≤ 3276800 ∧ 3276800 - a < n) := by
      unfold within at h; simp at h; omega
    clear h h'
    rcases hc with h1 | ⟨h1, h2⟩ | ⟨h1, h2, h3⟩ | ⟨h1, h2, h3, h4⟩
    all_goals
      go_enter Try.func28, Try.ntmps28
      go_wp2
      go_ret
      exact ⟨by first | rfl | (simp; omega), rfl⟩
theorem spans_bump (l : List Sp) (s : Sp) : (spans (l ++ [s])).set (l.length * 3 + 1) (.int .i64 (s.n + 1)) = spans (bump (l ++ [s])) := by
  rw [bump_append, spans_append, spans_append, List.set_append_right _ _ (by rw [spans_length]; omega), spans_length]
  rw [show l.length * 3 + 1 - l.length * 3 = 1 by omega]
  rfl
theorem bump_len (l : List Sp) : (bump l).length = l.length := by
  induction l with
  | nil => rfl
  | cons a l ih =>
    cases l with
    | nil => rfl
    | cons b l => simp only [bump, List.length_cons] at *; omega
/-- One more byte of the last one: its cells. -/
theorem last_cells {w : World} {v : Value} {l : List Sp} {s : Sp} (h : Own w 49 3 v (l ++ [s]).length (spans (l ++ [s]))) :
    ∃ g cap, v = .slice (some ⟨g, 0, none⟩) (l.length + 1) cap ∧ w.cell? ⟨g, l.length * 3 + 1, none⟩ = some (.int .i64 s.n) ∧ w.frozen? ⟨g, l.length * 3 + 1, none⟩ = false ∧
      Own (w.setCell ⟨g, l.length * 3 + 1, none⟩ (.int .i64 (s.n + 1))) 49 3 v (l.length + 1) (spans (bump (l ++ [s]))) := by
  have hn : (l ++ [s]).length = l.length + 1 := by simp
  rw [hn] at h
  obtain ⟨A, cap, hv, hc, hz, hr⟩ := h.shape
  obtain ⟨g, hA, hg, he⟩ := hr (l.length * 3 + 1) (by omega)
  subst hA
  subst hv
  refine ⟨g, cap, rfl, ?_, ?_, ?_⟩
  · rw [he, spans_append, List.getElem?_append_right (by rw [spans_length]; omega), spans_length, show l.length * 3 + 1 - l.length * 3 = 1 by omega]
    rfl
  · obtain ⟨_, h2⟩ := h
    rcases h2 with ⟨h2, _⟩ | ⟨g2, cap2, cur2, hv2, hg2, hh2, r2⟩
    · cases h2
    · cases hv2; exact free_of hh2 _
  · rw [← spans_bump]
    exact Own.setAt h _ _ (by omega)
def Bd (M : List Sp) (m : Nat) : Prop := ∀ s ∈ M, 0 ≤ s.n ∧ s.n ≤ m
theorem bump_bd {M : List Sp} {m : Nat} (h : Bd M m) : Bd (bump M) (m + 1) := by
  induction M with
  | nil => exact fun s hs => by simp [bump] at hs
  | cons a M ih =>
    cases M with
    | nil =>
      intro s hs
      have := h a (by simp)
      simp [bump] at hs
      subst hs
      simp only []; omega
    | cons b M =>
      intro s hs
      have ih' := ih (fun t ht => h t (List.mem_cons_of_mem _ ht))
      simp only [bump, List.mem_cons] at hs ih'
      rcases hs with rfl | hs
      · have := h s (by simp); omega
      · exact ih' s (by simpa [bump] using hs)
theorem own_snoc {w : World} {v : Value} {M : List Sp} {s : Sp} (h : Own w 49 3 v (M.length + 1) (spans M ++ s.enc)) : Own w 49 3 v (M ++ [s]).length (spans (M ++ [s])) := by
  rw [spans_append, List.length_append]; simpa [spans] using h
set_option maxRecDepth 100000 in
set_option maxHeartbeats 1000000 in
theorem pieces_any (w : World) (b : Nat) (v : Value) (L : Tab.Prs) (a0 n0 : Int) (h : At w b v L) (hn0 : n0 ≤ 8192) (hF : ∀ k, byV L k ≤ 1048576) :
    Calls Try.prog 14 #[.pointer (some ⟨b, 0, none⟩), .int .i64 a0, .int .i64 n0] w fun e w' => ∃ u, e = .returned (.tuple #[u, .int .i64 (code (rpieces (byV L) a0 n0))]) ∧ Out w.heap.size w' u ((rpieces (byV L) a0 n0).getD []) ∧ Keeps (fun _ => False) w w' := by
  have q1 := rwithin_any w a0 n0
  by_cases hw : within a0 n0 = true
  · have hp : rpieces (byV L) a0 n0 = bp (byV L) a0 n0.toNat := by unfold rpieces; rw [if_pos hw]
    obtain ⟨r, hr⟩ : ∃ r, rpieces (byV L) a0 n0 = r := ⟨_, rfl⟩
    rw [hr]
    rw [hr] at hp
    have HR := Hid.of hp
    clear hp hr
    obtain ⟨g1, g2, g3⟩ : 0 ≤ n0 ∧ 131072 ≤ a0 ∧ a0 + n0 ≤ 3276800 := by unfold within at hw; simpa using hw
    obtain ⟨n, rfl⟩ : ∃ n : Nat, n0 = n := ⟨n0.toNat, by omega⟩
    rw [Int.toNat_natCast] at HR
    rw [hw] at q1
    go_enter Try.func14, Try.ntmps14
    go_wp2_with fail
    refine q1.mono ?_
    rintro e w1 ⟨rfl, rfl⟩
    clear hw q1
    go_wp2
    go_loopw [8, 9] (fun l i wr => ∃ (m : Nat) (M : List Sp) (k : Int), m ≤ n ∧ i = .int .i64 k ∧ Hid (k = a0 + m) ∧ Out w.heap.size wr l M ∧ Keeps (fun _ => False) w wr ∧ M.length ≤ m ∧ Hid (bp (byV L) a0 m = some M) ∧ Bd M m) (fun _ i _ => (a0 + n - intOf i).toNat)
    case atStart => exact ⟨0, [], a0, Nat.zero_le _, rfl, by refine Hid.of ?_; simp, Out.nil _ _, Keeps.refl _ _, by simp, rfl, fun s hs => by simp at hs⟩
    case round =>
      obtain ⟨m, M, i, hmn, rfl, hi, ho, hk, hl, hbp, hbd⟩ := hrel
      have i1 : 131072 ≤ i ∧ i ≤ a0 + n := by have := hi.out; omega
      obtain ⟨i1, i2⟩ := i1
      by_cases hlt : m < n
      · have i3 : i < a0 + n := by have := hi.out; omega
        have i4 : i < 3276800 := by omega
        have c2 := find_any wr b v L (i / 512) (h.old hk)
        have hF1 := hF (i / 512)
        have hsz := hk.size
        have hst : Hid (bp (byV L) a0 (m + 1) = bstep (byV L) a0 m M) := by
          refine Hid.of ?_
          show (bp (byV L) a0 m).bind _ = _
          rw [hbp.out]; rfl
        unfold bstep at hst
        rw [← hi.out] at hst
        obtain ⟨F, hFe⟩ : ∃ F, byV L = F := ⟨_, rfl⟩
        rw [hFe] at hst hbp HR hF1 c2
        rw [hFe]
        clear hF h hFe
        by_cases hx : F (i / 512) < 0
        · have hr : r = none := by
            rw [HR.out]
            refine bp_none (m := m + 1) ?_ (by omega)
            have := hst.out
            rw [if_pos hx] at this; exact this
          subst hr
          clear hst hbp HR
          generalize F (i / 512) = x at *
          go_wp2_with fail
          refine c2.mono ?_
          rintro e w2 ⟨rfl, rfl⟩
          go_wp2
          go_ret2
          exact ⟨_, rfl, Out.nil _ _, hk⟩
        · have hst' := hst.out
          rw [if_neg hx] at hst'
          have hx0 : 0 ≤ F (i / 512) := by omega
          by_cases hnew : m = 0 ∨ i % 512 = 0
          · rw [if_pos hnew] at hst'
            have HS := Hid.of hst'
            clear hst hst'
            have hB : (i == a0) = true ∨ ((i == a0) = false ∧ (i % 512 == 0) = true) := by
              have := hi.out
              by_cases e : i = a0
              · left; simpa using e
              · right; refine ⟨by simpa using e, ?_⟩
                have : i % 512 = 0 := by omega
                simpa using this
            clear hnew
            generalize F (i / 512) = x at *
            rcases hB with e1 | ⟨e1, e2⟩
            all_goals
              go_wp2_with fail
              refine c2.mono ?_
              rintro e w2 ⟨rfl, rfl⟩
              go_wp2_with (at_builtin; refine wpList_app1 slSpans wr rfl _ _ rfl u8 M.length (spans M) rfl ho.1 [.int .i64 (x * 512 + i % 512), .int .i64 0, .bool false] rfl rfl (by simp [Value.oneCell']) (by unfold maxLen; omega) (by omega) ?_; intro v' w2 o2 k2 hat2; obtain ⟨g, cap, rfl, hc1, hf1, o5⟩ := last_cells (own_snoc (s := ⟨x * 512 + i % 512, 0, false⟩) o2))
              have hg : w.heap.size ≤ g := by
                rcases hat2 with e | e
                · exact ho.2 g (by rw [← e]; rfl)
                · have e' : g = wr.heap.size + 1 := by simpa [Value.ownBlock] using e
                  omega
              go_roundw
              case rel =>
                refine ⟨m + 1, _, i + 1, by omega, rfl, Hid.of (by have := hi.out; omega), ⟨?_, ?_⟩, (hk.trans' k2 (fun x hx hl => by have := ho.2 x hx; omega)).setCell _ _ (.inr hg), ?_, HS, bump_bd (fun t ht => by rcases List.mem_append.1 ht with h | h; { exact hbd t h }; { simp at h; subst h; simp })⟩
                · rw [bump_len, List.length_append]; exact o5
                · intro g' hg'; cases hg'; exact hg
                · rw [bump_len, List.length_append]; simp; omega
              case measure => simp [intOf]; omega
          · rw [if_neg hnew] at hst'
            have HS := Hid.of hst'
            have e1 : (i == a0) = false := by
              have := hi.out
              have : i ≠ a0 := fun e => hnew (.inl (by omega))
              simpa using this
            have e2 : (i % 512 == 0) = false := by
              have : i % 512 ≠ 0 := fun e => hnew (.inr e)
              simpa using this
            have hM : M ≠ [] := by
              obtain ⟨m', rfl⟩ : ∃ m', m = m' + 1 := ⟨m - 1, by omega⟩
              exact bp_ne hbp.out
            obtain ⟨l, s, rfl⟩ : ∃ C s, M = C ++ [s] := ⟨_, _, (List.dropLast_concat_getLast hM).symm⟩
            obtain ⟨g, cap, hu, hc1, hf1, o5⟩ := last_cells ho.1
            have hg : w.heap.size ≤ g := ho.2 g (by rw [hu]; rfl)
            have hl' : l.length + 1 ≤ m := by simpa using hl
            subst hu
            obtain ⟨s1, s2⟩ := hbd s (by simp)
            have HO := Hid.of o5
            clear hst hst' hnew ho o5 hM hl hbp
            generalize F (i / 512) = x at *
            go_wp2_with fail
            refine c2.mono ?_
            rintro e w2 ⟨rfl, rfl⟩
            go_wp2
            go_roundw
            case rel =>
              refine ⟨m + 1, _, i + 1, by omega, rfl, Hid.of (by have := hi.out; omega), ⟨?_, ?_⟩, hk.setCell _ _ (.inr hg), ?_, HS, bump_bd hbd⟩
              · rw [bump_len, List.length_append]; exact HO.out
              · intro g' hg'; cases hg'; exact hg
              · rw [bump_len, List.length_append]; simp; omega
            case measure => simp [intOf]; omega
      · have hmn' : m = n := by omega
        subst hmn'
        have hr : r = some M := by rw [HR.out, hbp.out]
        subst hr
        have i5 : ¬ i < a0 + m := by have := hi.out; omega
        clear h hF hbp
        go_wp2
        go_ret2
        exact ⟨_, rfl, ho, hk⟩
  · have hp : rpieces (byV L) a0 n0 = none := by unfold rpieces; rw [if_neg hw]
    rw [hp]
    have hw' : within a0 n0 = false := by simpa using hw
    rw [hw'] at q1
    clear h hF hw hw' hp
    go_enter Try.func14, Try.ntmps14
    go_wp2_with fail
    refine q1.mono ?_
    rintro e w1 ⟨rfl, rfl⟩
    go_wp2
    go_ret2
    exact ⟨_, rfl, Out.nil _ _, Keeps.refl _ _⟩
end RTab
end Go.Proofs.Ytcjdejhjbelggaa
