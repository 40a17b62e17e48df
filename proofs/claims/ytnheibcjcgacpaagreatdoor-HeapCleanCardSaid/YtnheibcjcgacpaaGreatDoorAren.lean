/- The arena package's walks: New, Size, has, touch, Read, Write, Zero, Copy, Load and Store of small words, Touched, Forget. | The arena package's walks: New, Read, Write, Zero, Copy, Load and Store of small words, Touched, Forget. | The arena package's walks: Load and Store of small words. | The arena package's walk: Store of a small word; Touched. -/
import Derived.Test.YtnheibcjcgacpaaGreatDoorSpan
import Derived.Test.YtnheibcjcgacpaaGreatDoorByt
import Derived.Test.YtnheibcjcgacpaaGreatDoorApp
import Derived.WalkSpells
import Derived.WalkLawsBesides
import Derived.WalkMore
import Derived.BigQuiet
import Derived.Deep.QuietTactic
import Derived.Laws.BitsAllLaws
import Derived.Test.YtnheibcjcgacpaaGreatDoorClA
set_option linter.unusedVariables false
set_option linter.unusedSimpArgs false
/-! The arena package's walks: New, Size, has, touch, Read, Write, Zero, Copy, Load and Store of small words, Touched, Forget. -/
namespace Go.Proofs.YtnheibcjcgacpaaGreatDoor
open Go.RowKit Go.ChangeMaps
namespace Ar
/-- What a call leaves of a block that was there: a place of an arena: the struct, its bytes, its row of touches. -/
structure Pl where
  a : Nat
  g : Nat
structure AS where
  B : Bs
  T : List Sp
def Fp (p : Pl) (v : Value) (x : Nat) : Prop := x = p.a ∨ x = p.g ∨ v.ownBlock = some x
structure AtV (w : World) (p : Pl) (v : Value) (S : AS) : Prop where
  cells : w.heap[p.a]? = some (.cells #[.slice (some ⟨p.g, 0, none⟩) S.B.length S.B.length, v] 173 (0, 0))
  bytes : BAt w p.g S.B []
  tch : Own w 61 3 v S.T.length (spans S.T)
  va : v.ownBlock ≠ some p.a
  vg : v.ownBlock ≠ some p.g
  ag : p.a ≠ p.g
  len : S.B.length ≤ 2097152
theorem AtV.keep {F : Nat → Prop} {w w' : World} {p : Pl} {v : Value} {S : AS} (h : AtV w p v S) (k : Keeps F w w') (hf : ∀ x, Fp p v x → ¬ F x) : AtV w' p v S :=
  ⟨k.at h.cells (hf _ (.inl rfl)), h.bytes.keep k (hf _ (.inr (.inl rfl))), h.tch.keep k (fun g hg => hf g (.inr (.inr hg))), h.va, h.vg, h.ag, h.len⟩
theorem AtV.old {w w' : World} {p : Pl} {v : Value} {S : AS} (h : AtV w p v S) (k : Keeps (fun _ => False) w w') : AtV w' p v S := h.keep k (fun _ _ x => x)
theorem AtV.lt {w : World} {p : Pl} {v : Value} {S : AS} (h : AtV w p v S) {x : Nat} (hx : Fp p v x) : x < w.heap.size := by
  rcases hx with rfl | rfl | hx
  · exact lt_of h.cells
  · exact h.bytes.lt
  · exact h.tch.lt hx
/-- What a call of it leaves: perhaps another row of touches. -/
def R (w : World) (p : Pl) (v : Value) (S' : AS) (w' : World) : Prop := ∃ v', AtV w' p v' S' ∧ Keeps (Fp p v) w w' ∧ ∀ x, Fp p v' x → Fp p v x ∨ w.heap.size ≤ x
theorem R.refl {w w' : World} {p : Pl} {v : Value} {S : AS} (h : AtV w p v S) (k : Keeps (fun _ => False) w w') : R w p v S w' := ⟨v, h.old k, k.mono (fun _ _ x => x.elim), fun _ h => .inl h⟩
theorem R.trans {w w1 w2 : World} {p : Pl} {v : Value} {S1 S2 : AS} (h : R w p v S1 w1) (k : ∀ v1, AtV w1 p v1 S1 → R w1 p v1 S2 w2) : R w p v S2 w2 := by
  obtain ⟨v1, a1, k1, f1⟩ := h
  obtain ⟨v2, a2, k2, f2⟩ := k v1 a1
  refine ⟨v2, a2, k1.trans' k2 (fun x hx hl => ?_), fun x hx => ?_⟩
  · rcases f1 x hx with h | h
    · exact h
    · omega
  · rcases f2 x hx with h | h
    · exact f1 x h
    · exact .inr (Nat.le_trans k1.size h)
theorem R.after {w w1 w2 : World} {p : Pl} {v : Value} {S : AS} (k : Keeps (fun _ => False) w w1) (h : R w1 p v S w2) : R w p v S w2 := by
  obtain ⟨v', a, kk, f⟩ := h
  refine ⟨v', a, (k.mono (fun _ _ x => x.elim)).trans kk, fun x hx => ?_⟩
  rcases f x hx with h | h
  · exact .inl h
  · exact .inr (Nat.le_trans k.size h)
def has (B : Bs) (a n : Int) : Int := if 0 ≤ a ∧ 0 ≤ n ∧ a ≤ B.length ∧ n ≤ B.length - a then 0 else 4
def note (T : List Sp) (a n : Nat) (wr : Bool) : List Sp := if n = 0 then T else T ++ [⟨a, n, wr⟩]
def so (B : Bs) (a : Nat) : Nat := if B.length = a then 0 else a
def tsl (g : Nat) (B : Bs) (a n : Nat) : Value := .slice (some ⟨g, so B a, none⟩) n (B.length - a)
set_option maxRecDepth 100000 in
theorem size_any (w : World) (p : Pl) (v : Value) (S : AS) (h : AtV w p v S) :
    Calls Tryz.prog 37 #[.pointer (some ⟨p.a, 0, none⟩)] w fun e w' => e = .returned (.int .i64 S.B.length) ∧ w = w' := by
  have c0 := cell_of (v := .slice (some ⟨p.g, 0, none⟩) S.B.length S.B.length) h.cells 0 rfl
  clear h
  go_enter Tryz.func37, Tryz.ntmps37
  go_wp2
  go_ret
  exact ⟨rfl, rfl⟩
set_option maxRecDepth 100000 in
def hasFrame (x0 : Value) (u : Nat → Value) : Act := { tmps := #[x0, u 1, u 2, u 3, u 4, u 5, u 6, u 7, u 8, u 9, u 10, u 11, u 12, u 13, u 14, u 15, u 16, u 17, u 18, u 19, u 20, u 21, u 22, u 23, u 24, u 25, u 26, u 27, u 28, u 29, u 30, u 31, u 32], defers := [] }
set_option maxRecDepth 100000 in
theorem hasFrame_is (v0 v1 v2 v3 v4 v5 v6 v7 v8 v9 v10 v11 v12 v13 v14 v15 v16 v17 v18 v19 v20 v21 v22 v23 v24 v25 v26 v27 v28 v29 v30 v31 v32 : Value) : ({ tmps := #[v0, v1, v2, v3, v4, v5, v6, v7, v8, v9, v10, v11, v12, v13, v14, v15, v16, v17, v18, v19, v20, v21, v22, v23, v24, v25, v26, v27, v28, v29, v30, v31, v32], defers := [] } : Act) = hasFrame v0 (fun i => #[v0, v1, v2, v3, v4, v5, v6, v7, v8, v9, v10, v11, v12, v13, v14, v15, v16, v17, v18, v19, v20, v21, v22, v23, v24, v25, v26, v27, v28, v29, v30, v31, v32].getD i undef) := rfl
set_option maxRecDepth 100000 in
set_option maxHeartbeats 600000 in
theorem has_any (w : World) (p : Pl) (v : Value) (S : AS) (a n : Int) (h : AtV w p v S) (hn : n ≤ 9223372036854775807) :
    Calls Tryz.prog 111 #[.pointer (some ⟨p.a, 0, none⟩), .int .i64 a, .int .i64 n] w fun e w' => e = .returned (.int .i64 (has S.B a n)) ∧ w = w' := by
  have c0 := cell_of (v := .slice (some ⟨p.g, 0, none⟩) S.B.length S.B.length) h.cells 0 rfl
  have hl := h.len
  obtain ⟨pa, pg⟩ := p
  dsimp only at c0 ⊢
  unfold has
  obtain ⟨L, hL⟩ : ∃ L, S.B.length = L := ⟨_, rfl⟩
  rw [hL] at c0 hl ⊢
  clear h hL
  have hc : (0 ≤ a ∧ 0 ≤ n ∧ a ≤ L ∧ n ≤ L - a) ∨ (0 ≤ a ∧ 0 ≤ n ∧ a ≤ L ∧ ¬ n ≤ L - a) ∨ (a < 0) ∨ (0 ≤ a ∧ n < 0) ∨ (0 ≤ a ∧ 0 ≤ n ∧ (L : Int) < a) := by omega
  have HL := Hid.of hl
  clear hl
  rcases hc with ⟨h1, h2, h3, h4⟩ | ⟨h1, h2, h3, h4⟩ | h1 | ⟨h1, h2⟩ | ⟨h1, h2, h3⟩
  · rw [if_pos ⟨h1, h2, h3, h4⟩]
    have d1 : decide (a < 0) = false := by simp; omega
    have d2 : decide (n < 0) = false := by simp; omega
    have d3 : decide ((L : Int) < a) = false := by simp; omega
    have ws : wrap64 ((L : Int) - a) = L - a := by have := HL.out; unfold wrap64; omega
    have d4 : decide (n ≤ (L : Int) - a) = true := by simpa using h4
    clear h1 h2 h3 h4
    go_enter Tryz.func111, Tryz.ntmps111
    go_wp2
    refine wp_scope_straight ?_
    go_wp2
    simp only [Exit.noGoto]
    go_ret
    exact ⟨rfl, rfl⟩
  case' inr.inl =>
    have d1 : decide (a < 0) = false := by simp; omega
    have d2 : decide (n < 0) = false := by simp; omega
    have d3 : decide ((L : Int) < a) = false := by simp; omega
    have ws : wrap64 ((L : Int) - a) = L - a := by have := HL.out; unfold wrap64; omega
    have d4 : decide (n ≤ (L : Int) - a) = false := by simp; omega
  case' inr.inr.inl => have d1 : decide (a < 0) = true := by simpa using h1
  case' inr.inr.inr.inl =>
    have d1 : decide (a < 0) = false := by simp; omega
    have d2 : decide (n < 0) = true := by simpa using h2
  case' inr.inr.inr.inr =>
    have d1 : decide (a < 0) = false := by simp; omega
    have d2 : decide (n < 0) = false := by simp; omega
    have d3 : decide ((L : Int) < a) = true := by simpa using h3
  all_goals
    rw [if_neg (by omega)]
    go_enter Tryz.func111, Tryz.ntmps111
    go_wp2
    refine wp_scope_once 0 (fun m a' w' => ∃ (u : Nat → Value), a' = hasFrame (.pointer (some ⟨pa, 0, none⟩)) u ∧ w' = w) rfl ?_ ?_
    · rintro m a' w' ⟨u, hf, hw⟩
      unfold hasFrame at hf
      subst hf
      subst hw
      go_wp2
      simp only [Exit.jump]
      go_ret
      exact ⟨rfl, rfl⟩
    · intro hr
      go_wp2
      first
        | (go_step3
           exact ⟨rfl, 0, _, hasFrame_is .., rfl⟩)
        | (refine wp_label ?_
           exact hr 0 _ _ ⟨_, hasFrame_is .., rfl⟩)
        | (go_step3
           refine (by assumption : ∀ (a : Act) (w : World), Code.wp _ _ _ a w → _) _ _ ?_
           exact hr 0 _ _ ⟨_, hasFrame_is .., rfl⟩)
theorem has_ok {B : Bs} {a n : Nat} (h : a + n ≤ B.length) : has B a n = 0 := by unfold has; rw [if_pos (by omega)]
theorem AtV.two {w : World} {p : Pl} {v : Value} {S : AS} (h : AtV w p v S) : w.cell? ⟨p.a, 0, none⟩ = some (.slice (some ⟨p.g, 0, none⟩) S.B.length S.B.length) ∧ w.cell? ⟨p.a, 1, none⟩ = some v ∧ w.frozen? ⟨p.a, 1, none⟩ = false :=
  ⟨cell_of h.cells 0 rfl, cell_of h.cells 1 rfl, free_of h.cells 1⟩
theorem spans_one (L : List Sp) : ∀ u ∈ spans L, u.oneCell' = true := by
  intro u hu
  obtain ⟨o, ho, hm⟩ := List.mem_flatMap.1 hu
  simp only [Sp.enc, List.mem_cons, List.not_mem_nil, or_false] at hm
  rcases hm with rfl | rfl | rfl <;> rfl
/-- What 'touch' leaves: one touch more. -/
def TouR (w : World) (p : Pl) (v : Value) (S : AS) (a n : Nat) (wr : Bool) (e : Ending) (w' : World) : Prop := e = .returned (tsl p.g S.B a n) ∧ R w p v ⟨S.B, note S.T a n wr⟩ w'
set_option maxRecDepth 100000 in
set_option maxHeartbeats 1000000 in
theorem touch_any (w : World) (p : Pl) (v : Value) (S : AS) (a n : Nat) (wr : Bool) (h : AtV w p v S) (hn : a + n ≤ S.B.length) (ht : S.T.length ≤ 1000000000) :
    Calls Tryz.prog 112 #[.pointer (some ⟨p.a, 0, none⟩), .int .i64 a, .int .i64 n, .bool wr] w (TouR w p v S a n wr) := by
  obtain ⟨c0, c1, f1⟩ := h.two
  have hl := h.len
  have H := Hid.of h
  have hpag := h.ag
  obtain ⟨pa, pg⟩ := p
  dsimp only at c0 c1 f1 hpag
  obtain ⟨b1, b2⟩ := bsl_lh pg S.B.length a (a + n) S.B.length (by omega) hn
  have he : a + n - a = n := by omega
  rw [he] at b1 b2
  have hso : so S.B a = (if S.B.length = a then 0 else a) := rfl
  obtain ⟨o, ho⟩ : ∃ o, so S.B a = o := ⟨_, rfl⟩
  rw [← hso, ho] at b1 b2
  have HO := Hid.of ho
  obtain ⟨L, hL⟩ : ∃ L, S.B.length = L := ⟨_, rfl⟩
  rw [hL] at b1 b2 c0 hl hn
  have HL := Hid.of hL
  have hts : tsl pg S.B a n = .slice (some ⟨pg, o, none⟩) n (L - a) := by unfold tsl; rw [ho, hL]
  obtain ⟨D, hD⟩ : ∃ D, L - a = D := ⟨_, rfl⟩
  rw [hD] at b1 b2 hts
  obtain ⟨E, hE⟩ : ∃ E, a + n = E := ⟨_, rfl⟩
  rw [hE] at b1 b2
  have HE := Hid.of hE
  have HS := Hid.of hts
  clear ho hso hL hts hD he
  by_cases h0 : n = 0
  · subst h0
    obtain rfl : a = E := by omega
    have wa : wrap64 (a : Int) = a := by unfold wrap64; omega
    have HT : Hid (TouR w ⟨pa, pg⟩ v S a 0 wr (.returned (.slice (some ⟨pg, o, none⟩) 0 D)) w) := Hid.of ⟨by rw [← HS.out], by unfold note; rw [if_pos rfl]; exact R.refl H.out (Keeps.refl _ _)⟩
    clear H h hl hn ht hE
    go_enter Tryz.func112, Tryz.ntmps112
    go_wp2
    go_ret
    exact HT.out
  · have hd : decide ((0 : Int) < (n : Int)) = true := by simp; omega
    have hd2 : decide (0 < n) = true := by simp; omega
    have wa : wrap64 ((a : Int) + n) = (E : Int) := by unfold wrap64; omega
    have o1 := h.tch
    have HT0 := Hid.of ht
    have HN := Hid.of h0
    clear h hl hn ht hE h0
    go_enter Tryz.func112, Tryz.ntmps112
    go_wp2_with (at_builtin; refine wpList_app1 slSpans w rfl _ _ rfl v S.T.length (spans S.T) rfl o1 [.int .i64 a, .int .i64 n, .bool wr] rfl rfl (by simp [Value.oneCell']) (by have := HT0.out; unfold maxLen; omega) (by have := HT0.out; omega) ?_; intro v' w2 o2 k2 at2; obtain ⟨A2, cp2, hv2, -, -, -⟩ := o2.shape; have b2' := k2.at H.out.cells H.out.va; have z0 := cell_of (v := .slice (some ⟨pg, 0, none⟩) S.B.length S.B.length) b2' 0 rfl; rw [HL.out] at z0; have z1 := free_of b2' 1; have z2 := cell_of (v := v) b2' 1 rfl; obtain ⟨w3, hw3⟩ : ∃ w3, w2.setCell ⟨pa, 1, none⟩ v' = w3 := ⟨_, rfl⟩; have b3 := set_of b2' 1 v'; have k3 : Keeps (fun x => x = pa) w2 (w2.setCell ⟨pa, 1, none⟩ v') := (Keeps.refl _ _).setCell _ _ (.inl rfl); rw [hw3] at b3 k3; have y0 := cell_of (v := .slice (some ⟨pg, 0, none⟩) S.B.length S.B.length) b3 0 rfl; rw [HL.out] at y0; have HF := Hid.of (And.intro o2 (And.intro k2 (And.intro at2 (And.intro b3 k3)))); rw [hv2] at hw3 HF ⊢; clear hv2 o2 k2 at2 b2' b3 k3)
    obtain ⟨o2, k2, at2, b3, k3⟩ := HF.out
    have HR : TouR w ⟨pa, pg⟩ v S a n wr (.returned (.slice (some ⟨pg, o, none⟩) n D)) w3 := by
      refine ⟨by rw [← HS.out], .slice A2 (S.T.length + 1) cp2, ⟨?_, ?_, ?_, ?_, ?_, hpag, H.out.len⟩, ?_, ?_⟩
      · exact b3
      · exact (H.out.bytes.keep k2 (fun e => H.out.vg e)).keep k3 (fun e => hpag e.symm)
      · unfold note
        rw [if_neg HN.out, List.length_append, spans_append]
        refine o2.keep k3 (fun g hg e => ?_)
        have e : g = pa := e
        subst e
        rcases at2 with e | e
        · rw [e] at hg; exact H.out.va hg
        · rw [e] at hg; injection hg with hg; have : _ < w.heap.size := lt_of H.out.cells; simp only at this; omega
      · intro e
        rcases at2 with q | q
        · rw [q] at e; exact H.out.va e
        · rw [q] at e; injection e with e; have e3 : w.heap.size + 1 = pa := e; have l1 : pa < w.heap.size := lt_of H.out.cells; omega
      · intro e
        rcases at2 with q | q
        · rw [q] at e; exact H.out.vg e
        · rw [q] at e; injection e with e; have e3 : w.heap.size + 1 = pg := e; have l1 : pg < w.heap.size := H.out.bytes.lt; omega
      · exact (k2.mono (fun x _ hx => .inr (.inr hx))).trans' k3 (fun x hx _ => .inl hx)
      · intro x hx
        rcases hx with hx | hx | hx
        · exact .inl (.inl hx)
        · exact .inl (.inr (.inl hx))
        · rcases at2 with q | q
          · rw [q] at hx; exact .inl (.inr (.inr hx))
          · rw [q] at hx; injection hx with hx; exact .inr (by omega)
    have HQ := Hid.of HR
    clear o2 k2 at2 b3 k3 HF HR z0 z1 H
    go_ret
    exact HQ.out
end Ar
end Go.Proofs.YtnheibcjcgacpaaGreatDoor

/-! The arena package's walks: New, Read, Write, Zero, Copy, Load and Store of small words, Touched, Forget. -/
namespace Go.Proofs.YtnheibcjcgacpaaGreatDoor
open Go.RowKit Go.ChangeMaps
namespace Ar
theorem rd_at {w : World} {g : Nat} {B : Bs} (h : BAt w g B []) (a n : Nat) (hn : a + n ≤ B.length) : Rd w (some ⟨g, so B a, none⟩) (u8s ((B.drop a).take n)) := by
  unfold so
  by_cases e : B.length = a
  · rw [List.drop_eq_nil_of_le (by omega), List.take_nil]; exact Rd.nil _ _
  · rw [if_neg e]; exact h.rd a n
theorem cut_len {B : Bs} {a n : Nat} (hn : a + n ≤ B.length) : ((B.drop a).take n).length = n := by rw [List.length_take, List.length_drop]; omega
theorem bput_so (B : Bs) (a : Nat) (d : Bs) (h : a + d.length ≤ B.length) : bput B (so B a) d = bput B a d ∧ so B a + d.length ≤ B.length := by
  unfold so
  by_cases e : B.length = a
  · have : d = [] := List.eq_nil_of_length_eq_zero (by omega)
    subst this
    rw [bput_nil, bput_nil, if_pos e]
    exact ⟨rfl, by simp⟩
  · rw [if_neg e]; exact ⟨rfl, h⟩
theorem AtV.put {w w' : World} {p : Pl} {v : Value} {S : AS} (h : AtV w p v S) (B' : Bs) (hl : B'.length = S.B.length) (hb : BAt w' p.g B' []) (k : Keeps (fun x => x = p.g) w w') : AtV w' p v ⟨B', S.T⟩ :=
  ⟨by rw [hl]; exact k.at h.cells h.ag, hb, h.tch.keep k (fun g hg e => h.vg (by have e : g = p.g := e; rw [hg, e])), h.va, h.vg, h.ag, by rw [hl]; exact h.len⟩
theorem R.put {w w1 w2 : World} {p : Pl} {v : Value} {S : AS} (h : R w p v S w1) (B' : Bs) (hl : B'.length = S.B.length) (hb : BAt w2 p.g B' []) (k : Keeps (fun x => x = p.g) w1 w2) : R w p v ⟨B', S.T⟩ w2 := by
  obtain ⟨v1, a1, k1, f1⟩ := h
  exact ⟨v1, a1.put B' hl hb k, k1.trans (k.mono (fun x _ e => .inr (.inl e))), f1⟩
theorem R.bytes {w w1 : World} {p : Pl} {v : Value} {S : AS} (h : R w p v S w1) : BAt w1 p.g S.B [] := by obtain ⟨v1, a1, k1, f1⟩ := h; exact a1.bytes
def ReadR (w : World) (p : Pl) (v : Value) (S : AS) (a n : Nat) (e : Ending) (w' : World) : Prop := e = .returned (.tuple #[.string (bs ((S.B.drop a).take n)), .int .i64 0]) ∧ R w p v ⟨S.B, note S.T a n false⟩ w'
set_option maxRecDepth 100000 in
set_option maxHeartbeats 600000 in
theorem read_any (w : World) (p : Pl) (v : Value) (S : AS) (a n : Nat) (h : AtV w p v S) (hn : a + n ≤ S.B.length) (ht : S.T.length ≤ 1000000000) :
    Calls Tryz.prog 36 #[.pointer (some ⟨p.a, 0, none⟩), .int .i64 a, .int .i64 n] w (ReadR w p v S a n) := by
  have hl := h.len
  have q1 := has_any w p v S a n h (by omega)
  rw [has_ok hn] at q1
  have q2 := touch_any w p v S a n false h hn ht
  unfold TouR tsl at q2
  have hc := cut_len hn
  have HH := Hid.of hn
  clear h hn ht hl
  go_enter Tryz.func36, Tryz.ntmps36
  go_wp2_with fail
  refine q1.mono ?_
  rintro e w1 ⟨rfl, rfl⟩
  clear q1
  go_wp2_with fail
  refine q2.mono ?_
  rintro e w2 ⟨rfl, r⟩
  have hs := string_of_bytes w2 (some ⟨p.g, so S.B a, none⟩) n (S.B.length - a) ((S.B.drop a).take n) hc (rd_at r.bytes a n HH.out) (by simp)
  have HR := Hid.of r
  clear q2 r hc
  go_wp2
  go_ret2
  exact ⟨rfl, HR.out⟩
def DoneR (w : World) (p : Pl) (v : Value) (S' : AS) (e : Ending) (w' : World) : Prop := e = .returned (.int .i64 0) ∧ R w p v S' w'
set_option maxRecDepth 100000 in
set_option maxHeartbeats 600000 in
theorem write_any (w : World) (p : Pl) (v : Value) (S : AS) (a : Nat) (d : Bs) (h : AtV w p v S) (hn : a + d.length ≤ S.B.length) (ht : S.T.length ≤ 1000000000) :
    Calls Tryz.prog 108 #[.pointer (some ⟨p.a, 0, none⟩), .int .i64 a, .string (bs d)] w (DoneR w p v ⟨bput S.B a d, note S.T a d.length true⟩) := by
  have hl := h.len
  have q1 := has_any w p v S a d.length h (by omega)
  rw [has_ok hn] at q1
  have q2 := touch_any w p v S a d.length true h hn ht
  unfold TouR tsl at q2
  have HH := Hid.of hn
  clear h hn ht hl
  go_enter Tryz.func108, Tryz.ntmps108
  go_wp2_with fail
  refine q1.mono ?_
  rintro e w1 ⟨rfl, rfl⟩
  clear q1
  go_wp2_with fail
  refine q2.mono ?_
  rintro e w2 ⟨rfl, r⟩
  obtain ⟨e1, e2⟩ := bput_so S.B a d HH.out
  obtain ⟨w3, hc, hb, k3⟩ := copy_str w2 p.g (so S.B a) d.length (S.B.length - a) S.B d d r.bytes (by rw [List.take_length]) e2
  rw [e1] at hb
  have HR := Hid.of (r.put (bput S.B a d) (bput_length _ _ _ HH.out) hb k3)
  clear q2 r hb k3 e1 e2
  go_wp2
  go_ret
  exact ⟨rfl, HR.out⟩
/-- clear: a row of bytes. -/
theorem clear_bytes (w : World) (g o n cap : Nat) (c : Bs) (hg : BAt w g c []) (hfit : o + n ≤ c.length) :
    ∃ w', (∀ ty, (Builtin.clear_ #[65] ty #[.slice (some ⟨g, o, none⟩) n cap]).run Tryz.prog w = .ok (.tuple #[]) w') ∧ BAt w' g (bput c o (List.replicate n 0)) [] ∧ Keeps (fun x => x = g) w w' := by
  cases n with
  | zero =>
    refine ⟨w, fun ty => ?_, by rw [List.replicate_zero, bput_nil]; exact hg, Keeps.refl _ _⟩
    simp [Builtin.clear_, run_underlying slBytes.ht]
  | succ n =>
    have hz : (zeroValue 5).run Tryz.prog w = .ok (.int .u8 0) w := by kernel_rfl
    have hst := run_storeCells_at Tryz.prog g o 5 (u8s (List.replicate (n + 1) 0)) 0 (u8s c ++ []).toArray w (by exact hg) (by rw [u8s_length]; simp [u8s]; omega) (u8s_one _)
    have hzc : (Builtin.zeroCells (Value.int .u8 0).cells (n + 1)).toList = u8s (List.replicate (n + 1) 0) := by
      have : Builtin.zeroCells (Value.int .u8 0).cells (n + 1) = madeCells (Value.int .u8 0).cells ((n + 1) * (Value.int .u8 0).cells.size) := rfl
      rw [this]
      have e1 : (Value.int .u8 0).cells = #[.int .u8 0] := rfl
      rw [e1, show (#[(Value.int .u8 0)] : Array Value).size = 1 from rfl, Nat.mul_one, madeZeros]
    have hrun : ∀ ty, (Builtin.clear_ #[65] ty #[.slice (some ⟨g, o, none⟩) (n + 1) cap]).run Tryz.prog w = .ok (.tuple #[]) (w.setRow g (List.take (o + 0) (u8s c ++ []).toArray.toList ++ u8s (List.replicate (n + 1) 0) ++ List.drop (o + 0 + (u8s (List.replicate (n + 1) 0)).length) (u8s c ++ []).toArray.toList).toArray) := by
      intro ty
      simp only [Builtin.clear_, run_underlying slBytes.ht, Sem.run_bind, Sem.run_pure, Result.andThen_ok, List.getElem?_toArray, List.getElem?_cons_zero, hz, hzc, hst]
    refine ⟨_, hrun, ?_, keeps_setRow _ _ _⟩
    · unfold BAt
      rw [setRow_heap w g _ _ _ _ hg]
      have : (u8s (bput c o (List.replicate (n + 1) 0)) ++ []) = List.take (o + 0) (u8s c ++ []).toArray.toList ++ u8s (List.replicate (n + 1) 0) ++ List.drop (o + 0 + (u8s (List.replicate (n + 1) 0)).length) (u8s c ++ []).toArray.toList := by
        rw [List.take_append_of_le_length (by rw [u8s_length]; omega), List.drop_append_of_le_length (by rw [u8s_length, u8s_length, List.length_replicate]; omega)]
        simp [bput, u8s]
      rw [this]
set_option maxRecDepth 100000 in
set_option maxHeartbeats 600000 in
theorem zero_any (w : World) (p : Pl) (v : Value) (S : AS) (a n : Nat) (h : AtV w p v S) (hn : a + n ≤ S.B.length) (ht : S.T.length ≤ 1000000000) :
    Calls Tryz.prog 134 #[.pointer (some ⟨p.a, 0, none⟩), .int .i64 a, .int .i64 n] w (DoneR w p v ⟨bput S.B a (List.replicate n 0), note S.T a n true⟩) := by
  have hl := h.len
  have q1 := has_any w p v S a n h (by omega)
  rw [has_ok hn] at q1
  have q2 := touch_any w p v S a n true h hn ht
  unfold TouR tsl at q2
  have HH := Hid.of hn
  clear h hn ht hl
  go_enter Tryz.func134, Tryz.ntmps134
  go_wp2_with fail
  refine q1.mono ?_
  rintro e w1 ⟨rfl, rfl⟩
  clear q1
  go_wp2_with fail
  refine q2.mono ?_
  rintro e w2 ⟨rfl, r⟩
  obtain ⟨e1, e2⟩ := bput_so S.B a (List.replicate n 0) (by rw [List.length_replicate]; exact HH.out)
  rw [List.length_replicate] at e2
  obtain ⟨w3, hc, hb, k3⟩ := clear_bytes w2 p.g (so S.B a) n (S.B.length - a) S.B r.bytes e2
  rw [e1] at hb
  have HR := Hid.of (r.put (bput S.B a (List.replicate n 0)) (bput_length _ _ _ (by rw [List.length_replicate]; exact HH.out)) hb k3)
  clear q2 r hb k3 e1 e2
  go_wp2
  go_ret
  exact ⟨rfl, HR.out⟩
def cpy (B : Bs) (to fr n : Nat) : Bs := bput B to ((B.drop fr).take n)
theorem cpy_len {B : Bs} {to fr n : Nat} (h1 : to + n ≤ B.length) (h2 : fr + n ≤ B.length) : (cpy B to fr n).length = B.length := bput_length _ _ _ (by rw [cut_len h2]; exact h1)
theorem note_len (T : List Sp) (a n : Nat) (wr : Bool) : (note T a n wr).length ≤ T.length + 1 := by
  unfold note
  split
  · omega
  · simp
set_option maxRecDepth 100000 in
set_option maxHeartbeats 600000 in
theorem copy_any (w : World) (p : Pl) (v : Value) (S : AS) (to fr n : Nat) (h : AtV w p v S) (hn : to + n ≤ S.B.length) (hf : fr + n ≤ S.B.length) (ht : S.T.length + 1 ≤ 1000000000) :
    Calls Tryz.prog 133 #[.pointer (some ⟨p.a, 0, none⟩), .int .i64 to, .int .i64 fr, .int .i64 n] w (DoneR w p v ⟨cpy S.B to fr n, note (note S.T fr n false) to n true⟩) := by
  have hl := h.len
  have q1 := has_any w p v S to n h (by omega)
  rw [has_ok hn] at q1
  have q1' := has_any w p v S fr n h (by omega)
  rw [has_ok hf] at q1'
  have q2 := touch_any w p v S fr n false h hf (by omega)
  unfold TouR tsl at q2
  have q3 := fun w1 v1 (h1 : AtV w1 p v1 ⟨S.B, note S.T fr n false⟩) => touch_any w1 p v1 ⟨S.B, note S.T fr n false⟩ to n true h1 hn (by have := note_len S.T fr n false; simp only; omega)
  unfold TouR tsl at q3
  dsimp only at q3
  have HH := Hid.of (And.intro hn hf)
  clear h hn hf ht hl
  go_enter Tryz.func133, Tryz.ntmps133
  go_wp2
  refine wp_scope_straight ?_
  go_wp2_with fail
  refine q1.mono ?_
  rintro e w1 ⟨rfl, rfl⟩
  clear q1
  go_wp2_with fail
  refine q1'.mono ?_
  rintro e w1 ⟨rfl, rfl⟩
  clear q1'
  go_wp2_with fail
  refine q2.mono ?_
  rintro e w2 ⟨rfl, r⟩
  obtain ⟨v2, a2, k2, f2⟩ := r
  have q := q3 w2 v2 a2
  clear q2 q3
  go_wp2_with fail
  refine q.mono ?_
  rintro e w3 ⟨rfl, r3⟩
  have hc0 := cut_len HH.out.2
  obtain ⟨e1, e2⟩ := bput_so S.B to ((S.B.drop fr).take n) (by rw [hc0]; exact HH.out.1)
  obtain ⟨w4, hc, hb, k4⟩ := copy_bytes w3 p.g (so S.B to) n (S.B.length - to) n (S.B.length - fr) S.B ((S.B.drop fr).take n) (some ⟨p.g, so S.B fr, none⟩) r3.bytes (rd_at r3.bytes fr n HH.out.2) (by simp) (by rw [hc0]; exact (Nat.min_self n).symm) e2
  rw [e1] at hb
  have r4 := r3.put (cpy S.B to fr n) (cpy_len HH.out.1 HH.out.2) hb k4
  have HR := Hid.of (show R w p v ⟨cpy S.B to fr n, note (note S.T fr n false) to n true⟩ w4 from by
    obtain ⟨v4, a4, k5, f4⟩ := r4
    refine ⟨v4, a4, k2.trans' k5 (fun x hx hl => ?_), fun x hx => ?_⟩
    · rcases f2 x hx with h | h
      · exact h
      · omega
    · rcases f4 x hx with h | h
      · exact f2 x h
      · exact .inr (Nat.le_trans k2.size h))
  clear q r3 hb k4 e1 e2 r4 a2 k2 f2 hc0
  go_wp2
  try simp only [Exit.noGoto]
  try (refine wp_label ?_; go_wp2)
  try simp only [Exit.noGoto]
  go_ret
  exact ⟨rfl, HR.out⟩
theorem forget_row (w : World) : Own w 61 3 (.slice none 0 0) 0 (spans []) := Own.nil _ _ _
set_option maxRecDepth 100000 in
set_option maxHeartbeats 600000 in
theorem forget_any (w : World) (p : Pl) (v : Value) (S : AS) (h : AtV w p v S) :
    Calls Tryz.prog 29 #[.pointer (some ⟨p.a, 0, none⟩)] w fun e w' => e = .returned (.tuple #[]) ∧ R w p v ⟨S.B, []⟩ w' := by
  obtain ⟨c0, c1, f1⟩ := h.two
  obtain ⟨w3, hw3⟩ : ∃ w3, w.setCell ⟨p.a, 1, none⟩ (.slice none 0 0) = w3 := ⟨_, rfl⟩
  have b3 := set_of h.cells 1 (.slice none 0 0)
  have k3 : Keeps (fun x => x = p.a) w (w.setCell ⟨p.a, 1, none⟩ (.slice none 0 0)) := (Keeps.refl _ _).setCell _ _ (.inl rfl)
  rw [hw3] at b3 k3
  have HR : Hid (R w p v ⟨S.B, []⟩ w3) := Hid.of ⟨.slice none 0 0, ⟨b3, h.bytes.keep k3 (fun e => h.ag e.symm), Own.nil _ _ _, by simp [Value.ownBlock], by simp [Value.ownBlock], h.ag, h.len⟩, k3.mono (fun x _ e => .inl e), fun x hx => by
    rcases hx with hx | hx | hx
    · exact .inl (.inl hx)
    · exact .inl (.inr (.inl hx))
    · simp [Value.ownBlock] at hx⟩
  clear h b3 k3
  go_enter Tryz.func29, Tryz.ntmps29
  go_wp2
  go_end0
  exact ⟨rfl, HR.out⟩
theorem make_bytes' (w : World) (m : Nat) (hm : m ≤ 2097152) : (Instr.makeSlice 65 (.int .i64 m) (.int .i64 m)).run Tryz.prog w = .ok (.slice (some ⟨w.heap.size, 0, none⟩) m m) (w.alloc (.cells (u8s (List.replicate m 0)).toArray 5)) := by
  obtain ⟨i, z, hi, hz, h2, h3, h4⟩ := slBytes.info
  have hz' : z = .int .u8 0 := by
    have h : (Tryz.prog.info? 5).map (fun i => i.zero) = some (some (.int .u8 0)) := by kernel_rfl
    rw [hi] at h; simp at h; rw [hz] at h; simpa using h
  subst hz'
  have := run_make (P := Tryz.prog) w 65 5 i _ slBytes.ht hi hz .i64 .i64 m m (by omega) (by omega) (by rw [h3]; omega) (by omega)
  rw [this, h2]
  have e : madeCells (Value.int IntKind.u8 0).cells ((m : Int).toNat * 1) = (u8s (List.replicate m 0)).toArray := by
    rw [Int.toNat_natCast, Nat.mul_one]; exact madeZeros m
  rw [e]; simp
def NewR (w : World) (n : Nat) (e : Ending) (w' : World) : Prop := ∃ p v, e = .returned (.tuple #[.pointer (some ⟨p.a, 0, none⟩), .int .i64 0]) ∧ AtV w' p v ⟨List.replicate n 0, []⟩ ∧ (∀ x, Fp p v x → w.heap.size ≤ x) ∧ Keeps (fun _ => False) w w'
set_option maxRecDepth 100000 in
set_option maxHeartbeats 600000 in
theorem new_any (w : World) (n : Nat) (hn : n ≤ 2097152) : Calls Tryz.prog 78 #[.int .i64 n] w (NewR w n) := by
  have hm := make_bytes' w n hn
  obtain ⟨w1, hw1⟩ : ∃ w1, w.alloc (.cells (u8s (List.replicate n 0)).toArray 5) = w1 := ⟨_, rfl⟩
  rw [hw1] at hm
  have k1 : Keeps (fun _ => False) w w1 := by rw [← hw1]; exact (Keeps.refl _ _).alloc _
  have b1 : w1.heap[w.heap.size]? = some (.cells (u8s (List.replicate n 0)).toArray 5 (0, 0)) := by rw [← hw1]; exact alloc_new _ _
  obtain ⟨g, hg⟩ : ∃ g, w.heap.size = g := ⟨_, rfl⟩
  rw [hg] at b1 hm
  have hd1 : decide ((n : Int) < 0) = false := by simp
  have hd2 : decide ((2097152 : Int) < (n : Int)) = false := by simp; omega
  have HN := Hid.of hn
  have HK := Hid.of (And.intro k1 (And.intro b1 hg))
  clear hn k1 b1 hw1 hg
  go_enter Tryz.func78, Tryz.ntmps78
  go_wp2
  go_ret2
  obtain ⟨k1, b1, hg⟩ := HK.out
  have hg1 : g < w1.heap.size := lt_of b1
  refine ⟨⟨w1.heap.size, g⟩, .slice none 0 0, rfl, ⟨?_, ?_, Own.nil _ _ _, by simp [Value.ownBlock], by simp [Value.ownBlock], by simp only; omega, by simp only [List.length_replicate]; exact HN.out⟩, fun x hx => ?_, k1.alloc _⟩
  · simp only [List.length_replicate]; exact alloc_new _ _
  · exact BAt.of (alloc_old b1 _)
  · rcases hx with hx | hx | hx
    · have hx : x = w1.heap.size := hx
      have := k1.size; omega
    · have hx : x = g := hx
      omega
    · simp [Value.ownBlock] at hx
end Ar
end Go.Proofs.YtnheibcjcgacpaaGreatDoor

/-! The arena package's walks: Load and Store of small words. -/
namespace Go.Proofs.YtnheibcjcgacpaaGreatDoor
open Go.RowKit Go.ChangeMaps
namespace Ar
/-- A small number as a word's bytes. -/
def lw (x : Nat) : Bs := UInt8.ofNat x :: List.replicate 7 0
theorem lw_len (x : Nat) : (lw x).length = 8 := rfl
def lb (x k : Nat) : Nat := if k = 0 then x else 0
theorem lw_at (x k : Nat) (hx : x < 256) (hk : k < 8) : (u8s (lw x))[k]? = some (.int .u8 (lb x k : Nat)) := by
  have e : (UInt8.ofNat x).toNat = x := by simp [UInt8.toNat_ofNat']; omega
  rcases Cl.eight_cases hk with rfl | rfl | rfl | rfl | rfl | rfl | rfl | rfl <;> simp [u8s, lw, lb, e, List.replicate]
/-- The word at a place is a small number. -/
def Word (B : Bs) (a x : Nat) : Prop := (B.drop a).take 8 = lw x ∧ x < 256 ∧ a + 8 ≤ B.length
theorem sh_l (x k : Nat) (hx : x < 256) (hk : k < 8) : IntKind.u64.wrap (((lb x k : Nat) : Int) * 2 ^ (8 * k)) = ((lb x k : Nat) : Int) := by
  rw [IntKind.wrap_u64]
  by_cases e : k = 0
  · subst e; simp [lb]; omega
  · simp [lb, e]
theorem sh_r (x k : Nat) (hx : x < 256) (hk : k < 8) : ((x : Nat) : Int) / 2 ^ (8 * k) = ((lb x k : Nat) : Int) := by
  rcases Cl.eight_cases hk with rfl | rfl | rfl | rfl | rfl | rfl | rfl | rfl <;> simp [lb] <;> omega
theorem or_l (x k : Nat) (hx : x < 256) (hk : k < 8) : bits BinOp.or IntKind.u64 ((if k = 0 then 0 else x : Nat) : Int) ((lb x k : Nat) : Int) = (x : Int) := by
  have h0 : (0 : Nat) < 18446744073709551616 := by omega
  by_cases e : k = 0
  · subst e
    have := u64_or_nat 0 x h0 (by omega)
    simpa [lb] using this
  · have := u64_or_nat x 0 (by omega) h0
    simpa [lb, e] using this
set_option maxRecDepth 100000 in
def ldFrame (x4 x5 : Value) (u : Nat → Value) : Act := { tmps := #[u 0, u 1, u 2, u 3, x4, x5, u 6, u 7, u 8, u 9, u 10, u 11, u 12, u 13, u 14, u 15, u 16, u 17, u 18, u 19, u 20, u 21, u 22, u 23, u 24, u 25, u 26, u 27, u 28, u 29, u 30, u 31, u 32, u 33], defers := [] }
set_option maxRecDepth 100000 in
theorem ldFrame_is (v0 v1 v2 v3 v4 v5 v6 v7 v8 v9 v10 v11 v12 v13 v14 v15 v16 v17 v18 v19 v20 v21 v22 v23 v24 v25 v26 v27 v28 v29 v30 v31 v32 v33 : Value) : ({ tmps := #[v0, v1, v2, v3, v4, v5, v6, v7, v8, v9, v10, v11, v12, v13, v14, v15, v16, v17, v18, v19, v20, v21, v22, v23, v24, v25, v26, v27, v28, v29, v30, v31, v32, v33], defers := [] } : Act) = ldFrame v4 v5 (fun i => #[v0, v1, v2, v3, v4, v5, v6, v7, v8, v9, v10, v11, v12, v13, v14, v15, v16, v17, v18, v19, v20, v21, v22, v23, v24, v25, v26, v27, v28, v29, v30, v31, v32, v33].getD i undef) := rfl
def LoadR (w : World) (p : Pl) (v : Value) (S : AS) (a x : Nat) (e : Ending) (w' : World) : Prop := e = .returned (.tuple #[.int .u64 x, .int .i64 0]) ∧ R w p v ⟨S.B, note S.T a 8 false⟩ w'
set_option maxRecDepth 100000 in
set_option maxHeartbeats 600000 in
theorem load_any (w : World) (p : Pl) (v : Value) (S : AS) (a x : Nat) (h : AtV w p v S) (hw : Word S.B a x) (ht : S.T.length ≤ 1000000000) :
    Calls Tryz.prog 306 #[.pointer (some ⟨p.a, 0, none⟩), .int .i64 a] w (LoadR w p v S a x) := by
  obtain ⟨h1, h2, h3⟩ := hw
  have q1 := has_any w p v S a 8 h (by omega)
  rw [show has S.B a 8 = 0 from has_ok (a := a) (n := 8) h3] at q1
  have q2 := touch_any w p v S a 8 false h h3 ht
  unfold TouR tsl at q2
  obtain ⟨o, ho⟩ : ∃ o, so S.B a = o := ⟨_, rfl⟩
  obtain ⟨D, hD⟩ : ∃ D, S.B.length - a = D := ⟨_, rfl⟩
  rw [ho, hD] at q2
  have HH := Hid.of (And.intro h1 (And.intro h2 (And.intro h3 ho)))
  clear h h1 h2 h3 ht ho hD
  go_enter Tryz.func306, Tryz.ntmps306
  go_wp2
  refine wp_scope_straight ?_
  go_wp2_with fail
  refine q1.mono ?_
  rintro e w1 ⟨rfl, rfl⟩
  clear q1
  go_wp2_with fail
  refine q2.mono ?_
  rintro e w2 ⟨rfl, r⟩
  have hrd := rd_at r.bytes a 8 HH.out.2.2.1
  rw [HH.out.1, HH.out.2.2.2] at hrd
  have HR := Hid.of (And.intro r hrd)
  clear q2 r hrd
  go_wp2
  go_loopw [4, 18] (fun u i wr => ∃ k : Nat, k ≤ 8 ∧ i = .int .i64 k ∧ u = .int .u64 ((if k = 0 then 0 else x : Nat) : Int) ∧ wr = w2) (fun u i _ => 8 - (intOf i).toNat)
  case atStart => exact ⟨0, by omega, rfl, rfl, rfl⟩
  case round =>
    obtain ⟨k, hk, rfl, rfl, rfl⟩ := hrel
    by_cases hlt : k < 8
    · have hkd : (k : Int) < 8 := by omega
      have hki : (0 : Int) ≤ (k : Int) := by omega
      obtain ⟨ad, e, hc⟩ := HR.out.2 k _ (lw_at x k HH.out.2.1 hlt)
      cases e
      rw [addr_add] at hc
      have wm : wrap64 (8 * (k : Int)) = 8 * k := by unfold wrap64; omega
      have wu : IntKind.u64.wrap ((lb x k : Nat) : Int) = (lb x k : Nat) := by
        have : lb x k < 256 := by unfold lb; split; exact HH.out.2.1; omega
        rw [IntKind.wrap_u64]; omega
      have hs := sh_l x k HH.out.2.1 hlt
      have hor := or_l x k HH.out.2.1 hlt
      have HX := Hid.of (show ((x : Nat) : Int) = ((if k + 1 = 0 then 0 else x : Nat) : Int) from by simp)
      generalize ((if k = 0 then 0 else x : Nat) : Int) = Y at hor ⊢
      generalize lb x k = Z at hc wu hs hor
      go_wp2
      go_roundw
      case rel =>
        refine ⟨k + 1, by omega, by go_num, ?_⟩
        rw [← HX.out]
        exact ⟨rfl, trivial⟩
      case measure => simp [intOf]; omega
    · obtain rfl : k = 8 := by omega
      go_wp2
      refine wp_label ?_
      go_wp2
      try simp only [Exit.noGoto]
      go_ret2
      exact ⟨rfl, HR.out.1⟩
end Ar
end Go.Proofs.YtnheibcjcgacpaaGreatDoor

/-! The arena package's walk: Store of a small word; Touched. -/
namespace Go.Proofs.YtnheibcjcgacpaaGreatDoor
open Go.RowKit Go.ChangeMaps
namespace Ar
/-- One byte of a row turned. -/
theorem bat_set {w : World} {g : Nat} {B : Bs} (h : BAt w g B []) (i : Nat) (c : UInt8) (hi : i < B.length) : BAt (w.setCell ⟨g, i, none⟩ (.int .u8 (c.toNat : Int))) g (B.set i c) [] := by
  have := set_of h i (.int .u8 (c.toNat : Int))
  unfold BAt
  rw [this]
  congr 2
  apply Array.ext'
  simp [u8s]
theorem lb_byte (x k : Nat) (hx : x < 256) (hk : k < 8) : ((lw x).getD k 0).toNat = lb x k := by
  have e : (UInt8.ofNat x).toNat = x := by simp [UInt8.toNat_ofNat']; omega
  rcases Cl.eight_cases hk with rfl | rfl | rfl | rfl | rfl | rfl | rfl | rfl <;> simp [lw, lb, e, List.replicate]
theorem bput_get (B d : Bs) (a j : Nat) (h : a + d.length ≤ B.length) : (bput B a d)[j]? = if j < a then B[j]? else if j < a + d.length then d[j - a]? else B[j]? := by
  unfold bput
  have hta : (B.take a).length = a := by rw [List.length_take]; omega
  rw [List.append_assoc]
  by_cases h1 : j < a
  · rw [if_pos h1, List.getElem?_append_left (by omega), List.getElem?_take_of_lt h1]
  · rw [if_neg h1, List.getElem?_append_right (by omega), hta]
    by_cases h2 : j < a + d.length
    · rw [if_pos h2, List.getElem?_append_left (by omega)]
    · rw [if_neg h2, List.getElem?_append_right (by omega), List.getElem?_drop]
      congr 1; omega
theorem bput_step (B : Bs) (a x k : Nat) (hk : k < 8) (ha : a + 8 ≤ B.length) : (bput B a ((lw x).take k)).set (a + k) ((lw x).getD k 0) = bput B a ((lw x).take (k + 1)) := by
  have hl : (lw x).length = 8 := rfl
  have hk1 : ((lw x).take k).length = k := by rw [List.length_take, hl]; omega
  have hk2 : ((lw x).take (k + 1)).length = k + 1 := by rw [List.length_take, hl]; omega
  apply List.ext_getElem?
  intro j
  rw [List.getElem?_set, bput_length _ _ _ (by omega), bput_get _ _ _ _ (by omega), bput_get _ _ _ _ (by omega), hk1, hk2]
  by_cases e : a + k = j
  · subst e
    rw [if_pos rfl, if_pos (by omega), if_neg (by omega), if_pos (by omega), Nat.add_sub_cancel_left, List.getElem?_take_of_lt (by omega), List.getD_eq_getElem?_getD, List.getElem?_eq_getElem (by omega)]
    rfl
  · rw [if_neg e]
    by_cases h1 : j < a
    · rw [if_pos h1, if_pos h1]
    · rw [if_neg h1, if_neg h1]
      by_cases h2 : j < a + k
      · rw [if_pos h2, if_pos (by omega), List.getElem?_take_of_lt (by omega), List.getElem?_take_of_lt (by omega)]
      · rw [if_neg h2, if_neg (by omega)]
def sto (B : Bs) (a x : Nat) : Bs := bput B a (lw x)
theorem sto_len {B : Bs} {a x : Nat} (h : a + 8 ≤ B.length) : (sto B a x).length = B.length := bput_length _ _ _ h
/-- The cell of a byte, for a store. -/
theorem R.byte {w w1 : World} {p : Pl} {v : Value} {S : AS} (h : R w p v S w1) (i : Nat) (c : UInt8) (hi : i < S.B.length) :
    (∃ u, w1.cell? ⟨p.g, i, none⟩ = some u) ∧ w1.frozen? ⟨p.g, i, none⟩ = false ∧ R w p v ⟨S.B.set i c, S.T⟩ (w1.setCell ⟨p.g, i, none⟩ (.int .u8 (c.toNat : Int))) := by
  have hb := h.bytes
  have e : (u8s S.B)[i]? = some (.int .u8 (S.B[i].toNat : Int)) := by simp [u8s, List.getElem?_eq_getElem hi]
  exact ⟨⟨_, hb.cell i e⟩, free_of hb i, h.put (S.B.set i c) (by simp) (bat_set hb i c hi) ((Keeps.refl _ _).setCell _ _ (.inl rfl))⟩
set_option maxRecDepth 100000 in
set_option maxHeartbeats 600000 in
theorem store_any (w : World) (p : Pl) (v : Value) (S : AS) (a x : Nat) (h : AtV w p v S) (hx : x < 256) (ha : a + 8 ≤ S.B.length) (ht : S.T.length ≤ 1000000000) :
    Calls Tryz.prog 268 #[.pointer (some ⟨p.a, 0, none⟩), .int .i64 a, .int .u64 x] w (DoneR w p v ⟨sto S.B a x, note S.T a 8 true⟩) := by
  have q1 := has_any w p v S a 8 h (by omega)
  rw [show has S.B a 8 = 0 from has_ok (a := a) (n := 8) ha] at q1
  have q2 := touch_any w p v S a 8 true h ha ht
  unfold TouR tsl at q2
  have ho : so S.B a = a := by unfold so; rw [if_neg (by omega)]
  obtain ⟨D, hD⟩ : ∃ D, S.B.length - a = D := ⟨_, rfl⟩
  rw [ho, hD] at q2
  have HH := Hid.of (And.intro hx ha)
  clear h hx ha ht ho hD
  go_enter Tryz.func268, Tryz.ntmps268
  go_wp2
  refine wp_scope_straight ?_
  go_wp2_with fail
  refine q1.mono ?_
  rintro e w1 ⟨rfl, rfl⟩
  clear q1
  go_wp2_with fail
  refine q2.mono ?_
  rintro e w2 ⟨rfl, r⟩
  have HR := Hid.of r
  clear q2 r
  go_wp2
  go_loopw [20] (fun i wr => ∃ k : Nat, k ≤ 8 ∧ i = .int .i64 k ∧ Hid (R w p v ⟨bput S.B a ((lw x).take k), note S.T a 8 true⟩ wr)) (fun i _ => 8 - (intOf i).toNat)
  case atStart => exact ⟨0, by omega, rfl, by rw [List.take_zero, bput_nil]; exact HR⟩
  case round =>
    clear HR
    obtain ⟨k, hk, rfl, HR⟩ := hrel
    by_cases hlt : k < 8
    · have hkd : (k : Int) < 8 := by omega
      have hki : (0 : Int) ≤ (k : Int) := by omega
      have hbl : (bput S.B a ((lw x).take k)).length = S.B.length := bput_length _ _ _ (by rw [List.length_take, lw_len]; have := HH.out.2; omega)
      obtain ⟨⟨u, c0⟩, f0, r2⟩ := HR.out.byte (a + k) ((lw x).getD k 0) (by simp only [hbl]; have := HH.out.2; omega)
      rw [lb_byte x k HH.out.1 hlt] at r2
      dsimp only at r2
      rw [bput_step _ _ _ _ hlt HH.out.2] at r2
      have wm : wrap64 (8 * (k : Int)) = 8 * k := by unfold wrap64; omega
      have wu : IntKind.u8.wrap ((lb x k : Nat) : Int) = (lb x k : Nat) := by
        have : lb x k < 256 := by unfold lb; split; exact HH.out.1; omega
        rw [IntKind.wrap_u8]; omega
      have hs := sh_r x k HH.out.1 hlt
      generalize lb x k = Z at wu hs r2
      have c1 : wr.cell? ((⟨p.g, a, none⟩ : Addr).add k) = some u := by rw [addr_add]; exact c0
      obtain ⟨w3, hw3⟩ : ∃ w3, wr.setCell ⟨p.g, a + k, none⟩ (.int .u8 (Z : Int)) = w3 := ⟨_, rfl⟩
      rw [hw3] at r2
      have HR2 := Hid.of r2
      clear r2 hbl HR
      go_wp2
      go_roundw
      case rel => exact ⟨k + 1, by omega, by go_num, HR2⟩
      case measure => simp [intOf]; omega
    · obtain rfl : k = 8 := by omega
      have HF : Hid (R w p v ⟨sto S.B a x, note S.T a 8 true⟩ wr) := by
        have := HR.out
        rw [List.take_of_length_le (by rw [lw_len]; omega)] at this
        exact Hid.of this
      go_wp2
      refine wp_label ?_
      go_wp2
      try simp only [Exit.noGoto]
      go_ret
      exact ⟨rfl, HF.out⟩
end Ar
end Go.Proofs.YtnheibcjcgacpaaGreatDoor
