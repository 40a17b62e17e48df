/- The table package's walks, fourth part: Pieces. -/
import Derived.Test.YtcjdejhjbelggaaTabC
import Derived.Test.YtcjdejhjbelggaaSpan
set_option linter.unusedVariables false
set_option linter.unusedSimpArgs false
namespace Go.Proofs.Ytcjdejhjbelggaa
open Go.RowKit Go.ChangeMaps
theorem run_min_int {P : Program} (ts : Array TypeId) (ty : TypeId) (x y : Int) (w : World) : (Builtin.min_ ts ty #[.int .i64 x, .int .i64 y]).run P w = .ok (.int .i64 (if y < x then y else x)) w := by
  simp [Builtin.min_, Builtin.min2]
namespace Tab
def least (n o : Int) : Int := if 512 - o < n then 512 - o else n
/-- The pieces of n bytes from a on. -/
def pcs (E : Prs) : Nat → Int → Int → Option (List Sp)
  | 0, _, _ => some []
  | f + 1, a, n => if n ≤ 0 then some [] else if fnd E (a / 512) < 0 then none else (pcs E f (a + least n (a % 512)) (n - least n (a % 512))).map (⟨fnd E (a / 512) * 512 + a % 512, least n (a % 512), false⟩ :: ·)
def pieces (E : Prs) (a n : Int) : Option (List Sp) := if within a n then pcs E n.toNat a n else none
def code (r : Option (List Sp)) : Int := if r.isSome then 0 else 4
/-- An own slice of spans. -/
def Out (B : Nat) (w : World) (v : Value) (L : List Sp) : Prop := Own w 49 3 v L.length (spans L) ∧ ∀ g, v.ownBlock = some g → B ≤ g
theorem Out.nil (B : Nat) (w : World) : Out B w (.slice none 0 0) [] := ⟨Own.nil _ _ _, by simp [Value.ownBlock]⟩

set_option maxRecDepth 100000 in
set_option maxHeartbeats 4000000 in
theorem pieces_any (w : World) (b m n : Nat) (E G : Prs) (a0 n0 : Int) (h : At w b m n E G) (hE : ∀ k, fnd E k ≤ 1048576) :
    Calls Try.prog 13 #[.pointer (some ⟨b, 0, none⟩), .int .i64 a0, .int .i64 n0] w fun e w' => ∃ v, e = .returned (.tuple #[v, .int .i64 (code (pieces E a0 n0))]) ∧ Out w.heap.size w' v ((pieces E a0 n0).getD []) ∧ Keeps (fun _ => False) w w' := by
  have q1 := within_any w a0 n0
  by_cases hw : within a0 n0 = true
  · have hp : pieces E a0 n0 = pcs E n0.toNat a0 n0 := by unfold pieces; rw [if_pos hw]
    obtain ⟨r, hr⟩ : ∃ r, pieces E a0 n0 = r := ⟨_, rfl⟩
    rw [hr]
    rw [hr] at hp
    have HR := Hid.of hp
    clear hp hr
    obtain ⟨g1, g2, g3⟩ : 0 ≤ n0 ∧ 131072 ≤ a0 ∧ a0 + n0 ≤ 3276800 := by unfold within at hw; simpa using hw
    go_enter Try.func13, Try.ntmps13
    go_wp2_with fail
    refine q1.mono ?_
    rintro e w1 ⟨rfl, rfl⟩
    go_wp2
    go_loopw [1, 2, 6] (fun i j l wr => ∃ (a n : Int) (f : Nat) (L : List Sp), i = .int .i64 a ∧ j = .int .i64 n ∧ Out w.heap.size wr l L ∧ Keeps (fun _ => False) w wr ∧ 131072 ≤ a ∧ 0 ≤ n ∧ a + n ≤ 3276800 ∧ (L.length : Int) ≤ a - a0 ∧ n ≤ f ∧ Hid (r = (pcs E f a n).map (L ++ ·))) (fun _ j _ _ => (intOf j).toNat)
    case atStart => exact ⟨a0, n0, n0.toNat, [], rfl, rfl, Out.nil _ _, Keeps.refl _ _, g2, g1, g3, by simp, by omega, by rw [HR.out]; cases pcs E n0.toNat a0 n0 <;> rfl⟩
    case round =>
      obtain ⟨a, n, f, L, rfl, rfl, ho, hk, p1, p2, p3, p4, p5, hr⟩ := hrel
      by_cases hn : 0 < n
      · have p6 : a < 3276800 := by omega
        obtain ⟨q, hq⟩ : ∃ q, a / 512 = q := ⟨_, rfl⟩
        obtain ⟨o, ho'⟩ : ∃ o, a % 512 = o := ⟨_, rfl⟩
        have c1 := at_any wr a p1 p6
        rw [hq, ho'] at c1
        have o1 : 0 ≤ o ∧ o < 512 := by omega
        have o2 : 256 ≤ q ∧ q < 6400 := by omega
        have v1 : ∀ w, (convert 59 3 (.float .f64 (fl q))).run Try.prog w = .ok (.int .i64 q) w := fun w => run_fl_int w q (by omega)
        have v2 : ∀ w, (convert 59 3 (.float .f64 (fl o))).run Try.prog w = .ok (.int .i64 o) w := fun w => run_fl_int w o (by omega)
        have h1 := h.old hk
        have c2 := find_any wr b _ _ E G q h1
        obtain ⟨f, rfl⟩ : ∃ f', f = f' + 1 := ⟨f - 1, by omega⟩
        have hE1 := hE q
        have hr' : r = (if fnd E q < 0 then none else (pcs E f (a + least n o) (n - least n o)).map (⟨fnd E q * 512 + o, least n o, false⟩ :: ·)).map (L ++ ·) := by
          rw [hr.out]; simp only [pcs, hq, ho', if_neg (show ¬ n ≤ 0 by omega)]
        clear hr h hE hq ho'
        generalize fnd E q = x at *
        by_cases hx : x < 0
        · obtain rfl : r = none := by rw [hr', if_pos hx]; rfl
          clear hr' h1
          go_wp2_with fail
          refine c1.mono ?_
          rintro e w2 ⟨rfl, rfl⟩
          go_wp2_with fail
          refine c2.mono ?_
          rintro e w2 ⟨rfl, rfl⟩
          go_wp2
          go_ret2
          exact ⟨_, rfl, Out.nil _ _, hk⟩
        · rw [if_neg hx] at hr'
          have m1 : ∀ (ts : Array TypeId) (ty : TypeId) (w : World), (Builtin.min_ ts ty #[.int .i64 n, .int .i64 (512 - o)]).run Try.prog w = .ok (.int .i64 (least n o)) w := fun ts ty w => run_min_int ts ty _ _ w
          have m2 : 1 ≤ least n o ∧ least n o ≤ n ∧ least n o ≤ 512 - o := by unfold least; split <;> omega
          generalize least n o = k at *
          have HR' := Hid.of hr'
          clear hr' h1
          have hsz := hk.size
          go_wp2_with fail
          refine c1.mono ?_
          rintro e w2 ⟨rfl, rfl⟩
          go_wp2_with fail
          refine c2.mono ?_
          rintro e w2 ⟨rfl, rfl⟩
          go_wp2_with (at_builtin; refine wpList_app1 slSpans wr rfl _ _ rfl u6 L.length (spans L) rfl ho.1 [.int .i64 (x * 512 + o), .int .i64 k, .bool false] rfl rfl (by simp [Value.oneCell']) (by unfold maxLen; omega) (by omega) ?_; intro v' w2 o2 k2 hat2)
          go_roundw
          case rel =>
            refine ⟨a + k, n - k, f, L ++ [⟨x * 512 + o, k, false⟩], by go_num, by go_num, ⟨?_, ?_⟩, hk.trans' k2 (fun g hg _ => ?_), by omega, by omega, by omega, by simp; omega, by omega, ?_⟩
            · rw [spans_append, List.length_append]; exact o2
            · intro g hg
              rcases hat2 with e | e
              · exact ho.2 g (by rw [← e]; exact hg)
              · rw [e] at hg; cases hg; omega
            · have := ho.2 g hg; omega
            · refine Hid.of ?_
              rw [HR'.out, Option.map_map]
              congr 1
              funext l
              simp
          case measure => simp [intOf]; omega
      · have hn0 : n ≤ 0 := by omega
        have hrr : r = some L := by
          rw [hr.out]
          cases f with
          | zero => simp [pcs]
          | succ f => simp [pcs, hn0]
        subst hrr
        go_wp2
        go_ret2
        exact ⟨_, rfl, ho, hk⟩
  · have hp : pieces E a0 n0 = none := by unfold pieces; rw [if_neg hw]
    rw [hp]
    have hw' : within a0 n0 = false := by simpa using hw
    rw [hw'] at q1
    clear h hE hw hw' hp
    go_enter Try.func13, Try.ntmps13
    go_wp2_with fail
    refine q1.mono ?_
    rintro e w1 ⟨rfl, rfl⟩
    go_wp2
    go_ret2
    exact ⟨_, rfl, Out.nil _ _, Keeps.refl _ _⟩
end Tab
end Go.Proofs.Ytcjdejhjbelggaa
