/- ProjectViews' walk. -/
import Derived.Test.YtmlolkjgniodpaaProjJ
import Derived.Test.YtmlolkjgniodpaaAppN
import Derived.Deep.DeepMust
set_option linter.unusedVariables false
set_option linter.unusedSimpArgs false
namespace Go.Proofs.Ytmlolkjgniodpaa
open Go.RowKit Go.ChangeMaps
attribute [-go_sem] run_neq_struct run_eql_struct run_equalIn_agg
theorem rows_full {α : Type} (w : World) (n sz : Nat) (es : List Leaf) (enc : α → List Value) (hsz : ∀ x, (enc x).length = sz) (dec : ∀ cs, All2 (Leaf.ok w n) es cs → ∃ x, True ∧ cs = enc x) {v : Value} (h : Leaf.ok w (n + 1) (.sl sz es) v) :
    ∃ A cap xs, v = .slice A (xs : List α).length cap ∧ xs.length ≤ maxLen ∧ xs.length ≤ cap ∧ cap ≤ maxLen ∧ (A = none → cap = 0) ∧ Rd w A (xs.flatMap enc) := by
  obtain ⟨A, cap, xs, hv, h1, _, h3⟩ := rows_list w n sz es enc (fun _ => True) hsz dec h
  obtain ⟨A', len', cap', hv', hlc, hcm, hn, _⟩ := h
  rw [hv] at hv'
  injection hv' with e1 e2 e3
  subst e1 e2 e3
  exact ⟨A, cap, xs, hv, h1, hlc, hcm, fun e => (hn e).2, h3⟩
theorem dec_op {w : World} {n : Nat} (cs : List Value) (h : All2 (Leaf.ok w (n + 1)) [.int .i64, .int .i64, .int .i64, .int .i64, .int .u64, .str] cs) : ∃ x : XOp, True ∧ cs = x.enc := by
  obtain ⟨b1, bs1, rfl, h1, g1⟩ := h.inv_cons
  obtain ⟨b2, bs2, rfl, h2, g2⟩ := g1.inv_cons
  obtain ⟨b3, bs3, rfl, h3, g3⟩ := g2.inv_cons
  obtain ⟨b4, bs4, rfl, h4, g4⟩ := g3.inv_cons
  obtain ⟨b5, bs5, rfl, h5, g5⟩ := g4.inv_cons
  obtain ⟨b6, bs6, rfl, h6, g6⟩ := g5.inv_cons
  obtain rfl := g6.inv_nil
  obtain ⟨x1, rfl, _⟩ := h1
  obtain ⟨x2, rfl, _⟩ := h2
  obtain ⟨x3, rfl, _⟩ := h3
  obtain ⟨x4, rfl, _⟩ := h4
  obtain ⟨x5, rfl, _⟩ := h5
  obtain ⟨x6, rfl, _⟩ := h6
  exact ⟨⟨x1, x2, x3, x4, x5, x6⟩, trivial, rfl⟩
theorem dec_ans {w : World} {n : Nat} (cs : List Value) (h : All2 (Leaf.ok w (n + 1)) [.int .i64, .int .u64, .int .i64, .int .i64, .str, .int .i64] cs) : ∃ x : XAns, True ∧ cs = x.enc := by
  obtain ⟨b1, bs1, rfl, h1, g1⟩ := h.inv_cons
  obtain ⟨b2, bs2, rfl, h2, g2⟩ := g1.inv_cons
  obtain ⟨b3, bs3, rfl, h3, g3⟩ := g2.inv_cons
  obtain ⟨b4, bs4, rfl, h4, g4⟩ := g3.inv_cons
  obtain ⟨b5, bs5, rfl, h5, g5⟩ := g4.inv_cons
  obtain ⟨b6, bs6, rfl, h6, g6⟩ := g5.inv_cons
  obtain rfl := g6.inv_nil
  obtain ⟨x1, rfl, _⟩ := h1
  obtain ⟨x2, rfl, _⟩ := h2
  obtain ⟨x3, rfl, _⟩ := h3
  obtain ⟨x4, rfl, _⟩ := h4
  obtain ⟨x5, rfl, _⟩ := h5
  obtain ⟨x6, rfl, _⟩ := h6
  exact ⟨⟨x1, x2, x3, x4, x5, x6⟩, trivial, rfl⟩
namespace Proj
theorem oneOps (xs : List XOp) : ∀ u ∈ ops xs, u.oneCell' = true := by
  intro u hu
  obtain ⟨o, ho, hm⟩ := List.mem_flatMap.1 hu
  simp only [XOp.enc, List.mem_cons, List.not_mem_nil, or_false] at hm
  rcases hm with rfl | rfl | rfl | rfl | rfl | rfl <;> rfl
set_option maxRecDepth 100000 in
set_option maxHeartbeats 1000000 in
theorem views_any (w : World) (A B A2 B2 : Option Addr) (ca cb ca2 cb2 : Nat) (id : Int) (xs xs2 : List XOp) (ys ys2 : List XAns) (ha : Rd w A (ops xs)) (hb : Rd w B (anss ys)) (ha2 : Rd w A2 (ops xs2)) (hb2 : Rd w B2 (anss ys2)) (hx : xs.length ≤ maxLen) (hy : ys.length ≤ maxLen) (hx2 : xs2.length ≤ maxLen) (hy2 : ys2.length ≤ maxLen)
    (hca : xs.length ≤ ca) (hca2 : xs2.length ≤ ca2) (hm1 : ca ≤ maxLen) (hm2 : ca2 ≤ maxLen) (hA : A = none → ca = 0) (hA2 : A2 = none → ca2 = 0) :
    Calls Try.prog 3 #[.int .i64 id, .slice A xs.length ca, .slice B ys.length cb, .slice A2 xs2.length ca2, .slice B2 ys2.length cb2] w fun e w' => e = .returned (.bool true) ∧ Below w.heap.size w w' := by
  by_cases hbig : xs.length ≤ 300 ∧ ys.length ≤ 300 ∧ xs2.length ≤ 300 ∧ ys2.length ≤ 300
  · obtain ⟨b1, b2, b3, b4⟩ := hbig
    have g1 : decide ((xs.length : Int) > 300) = false := by simp; omega
    have g2 : decide ((ys.length : Int) > 300) = false := by simp; omega
    have g3 : decide ((xs2.length : Int) > 300) = false := by simp; omega
    have g4 : decide ((ys2.length : Int) > 300) = false := by simp; omega
    have q1 := fun (wx : World) (k : Keeps (fun _ => False) w wx) => view_any wx A B ca cb id xs ys (ha.old k) (hb.old k) (by omega) (by omega)
    have q2 := fun (wx : World) (k : Keeps (fun _ => False) w wx) => view_any wx A2 B2 ca2 cb2 id xs2 ys2 (ha2.old k) (hb2.old k) (by omega) (by omega)
    have q3 := fun (wx : World) (k : Keeps (fun _ => False) w wx) => said_any wx A B ca cb id xs ys (ha.old k) (hb.old k) (by omega) (by omega)
    have q4 := fun (wx : World) (k : Keeps (fun _ => False) w wx) => alike_any wx A B A2 B2 ca cb ca2 cb2 id xs xs2 ys ys2 (ha.old k) (hb.old k) (ha2.old k) (hb2.old k) (by omega) (by omega) (by omega) (by omega) hca hca2 hm1 hm2 hA hA2
    have q5 := fun (wx : World) (k : Keeps (fun _ => False) w wx) => leaks_any wx A B A2 B2 ca cb ca2 cb2 id xs xs2 ys ys2 (ha.old k) (hb.old k) (ha2.old k) (hb2.old k) (by omega) (by omega) (by omega) (by omega) hca hca2 hm1 hm2 hA hA2
    have l1 := view_len id xs ys
    have l2 := view_len id xs2 ys2
    rw [show saidL id xs ys = (viewL id xs ys).map (·.2) from rfl] at q3
    generalize viewL id xs ys = a at *
    generalize viewL id xs2 ys2 = b at *
    simp only [List.length_map] at q3
    go_enter Try.func3, Try.ntmps3
    go_wp2_with fail
    refine (awake_any w).mono ?_
    rintro e w1 ⟨rfl, k1⟩
    go_wp2_with fail
    refine (q1 w1 k1).mono ?_
    rintro e w2 ⟨v1, rfl, o1, k2⟩
    have k02 := k1.trans k2
    go_wp2_with fail
    refine (q2 w2 k02).mono ?_
    rintro e w3 ⟨v2, rfl, o2, k3⟩
    have k03 := k02.trans k3
    go_wp2_with fail
    refine (q3 w3 k03).mono ?_
    rintro e w4 ⟨v3, rfl, o3, k4⟩
    have k04 := k03.trans k4
    obtain ⟨C1, d1, rfl, -, -, r1⟩ := ((o1.old k3).old k4).rd
    obtain ⟨C2, d2, rfl, -, -, r2⟩ := (o2.old k4).rd
    obtain ⟨C3, d3, rfl, -, -, r3⟩ := o3.rd
    clear o1 o2 o3 q1 q2 q3 k1 k2 k3 k4 k02 k03
    go_wp2
    go_loopw [14, 55] (fun l i wr => ∃ j : Nat, j ≤ xs.length ∧ i = .int .i64 j ∧ OutR 30 6 w4.heap.size wr l (ofL id (xs.take j)).length (ops (ofL id (xs.take j))) ∧ Keeps (fun _ => False) w4 wr) (fun _ i _ => xs.length - (intOf i).toNat)
    case atStart => exact ⟨0, Nat.zero_le _, rfl, OutR.nil _ _ _ _, Keeps.refl _ _⟩
    case round =>
      obtain ⟨j, hj, rfl, ho, kp⟩ := hrel
      by_cases hlt : j < xs.length
      · clear q4 q5 r1 r2 r3
        obtain ⟨b, o, s, k, t, n, m, hh, d, hg, rfl, c0, c1, c2, c3, c4, c5⟩ := rop ((ha.old k04).old kp) j hlt
        have hk1 : decide ((j : Int) < xs.length) = true := by simp; omega
        obtain ⟨w5, hw5⟩ : ∃ w5, wr.alloc (.cells #[.int .i64 k, .int .i64 t, .int .i64 n, .int .i64 m, .int .u64 hh, .string d] 30) = w5 := ⟨_, rfl⟩
        have k5 : Keeps (fun _ => False) wr w5 := by rw [← hw5]; exact (Keeps.refl _ _).alloc _
        have hob : w5.heap[wr.heap.size]? = some (.cells #[.int .i64 k, .int .i64 t, .int .i64 n, .int .i64 m, .int .u64 hh, .string d] 30 (0, 0)) := by rw [← hw5]; exact alloc_new _ _
        have d0 := cell_of hob 0 rfl
        have d1 := cell_of hob 1 rfl
        have d2 := cell_of hob 2 rfl
        have d3 := cell_of hob 3 rfl
        have d4 := cell_of hob 4 rfl
        have d5 := cell_of hob 5 rfl
        have hT : Hid _ := take_get hg
        have hl : (ofL id (xs.take j)).length ≤ 1000000 := by have := List.length_filter_le (fun o : XOp => o.tenant == id) (xs.take j); unfold ofL; simp at this; omega
        have ho4 := ho.old k5
        have kp4 := kp.trans k5
        have hs4 := kp4.size
        clear hg
        by_cases ht : t = id
        · have e1 : (t == id) = true := by simpa using ht
          have e2 : Hid (ofL id (xs.take (j + 1)) = ofL id (xs.take j) ++ [⟨k, t, n, m, hh, d⟩]) := by refine Hid.of ?_; rw [hT.out]; unfold ofL; rw [List.filter_append]; simp [ht]
          clear ht
          generalize ofL id (xs.take j) = L at *
          go_wp2_with (at_builtin; refine wpList_app1 slOps w5 rfl _ _ rfl u14 L.length (ops L) rfl ho4.1 [.int .i64 k, .int .i64 t, .int .i64 n, .int .i64 m, .int .u64 hh, .string d] rfl rfl (by simp [Value.oneCell']) (by unfold maxLen; omega) (by omega) ?_; intro v' w6 o6 k6 at6)
          go_roundw
          case rel =>
            refine ⟨j + 1, by omega, by go_num, ?_, ho4.keeps kp4 k6⟩
            rw [e2.out, List.length_append, show ops (L ++ [⟨k, t, n, m, hh, d⟩]) = ops L ++ [.int .i64 k, .int .i64 t, .int .i64 n, .int .i64 m, .int .u64 hh, .string d] by simp [ops, XOp.enc]]
            exact ho4.app o6 at6 hs4
          case measure => simp [intOf]; omega
        · have e1 : (t == id) = false := by simpa using ht
          have e2 : Hid (ofL id (xs.take (j + 1)) = ofL id (xs.take j)) := by refine Hid.of ?_; rw [hT.out]; unfold ofL; rw [List.filter_append]; simp [ht]
          clear ht
          generalize ofL id (xs.take j) = L at *
          go_wp2
          go_roundw
          case rel => exact ⟨j + 1, by omega, by go_num, by rw [e2.out]; exact ho4, kp4⟩
          case measure => simp [intOf]; omega
      · have hk1 : decide ((j : Int) < xs.length) = false := by simp; omega
        have hall : xs.take j = xs := List.take_of_length_le (by omega)
        rw [hall] at ho
        clear hall
        obtain ⟨D, dd, rfl, -, -, rD⟩ := ho.rd
        have k0r := k04.trans kp
        have ra := ha.old k0r
        obtain ⟨w5, hw5⟩ : ∃ w5, wr.alloc (.cells #[] 30) = w5 := ⟨_, rfl⟩
        have k5 : Keeps (fun _ => False) wr w5 := by rw [← hw5]; exact (Keeps.refl _ _).alloc _
        have o5 : Own w5 30 6 (.slice (some ⟨wr.heap.size, 0, none⟩) 0 0) 0 [] := by rw [← hw5]; exact own_empty _ _ _
        have ra5 := ra.old k5
        have hF : ∀ x, Value.ownBlock (.slice (some ⟨wr.heap.size, 0, none⟩) 0 0) = some x → x = wr.heap.size := fun x h => by cases h; rfl
        have HT := Hid.of (And.intro (r1.old kp) (And.intro (r2.old kp) (And.intro (r3.old kp) rD)))
        have hAA : A = none → xs.length = 0 ∧ ca = 0 := fun e => by have := hA e; omega
        have hne : ((a.length : Int) != a.length) = false := by simp
        clear r1 r2 r3 rD ho ra kp
        go_wp2_with (at_builtin; refine wpList_appN slOps w5 rfl _ _ rfl _ rfl o5 A xs.length ca (ops xs) rfl hAA (flat_length XOp.enc 6 (fun _ => rfl) xs) ra5 (oneOps xs) (by unfold maxLen; omega) (by omega) ?_; intro v6 w6 o6 k6 at6)
        have k06 : Keeps (fun _ => False) wr w6 := k5.trans' k6 (fun x hx hl => by have := hF x hx; omega)
        obtain ⟨A6, c6, rfl, -, -, r6⟩ := OutR.rd (B := 0) ⟨o6, fun _ _ => Nat.zero_le _⟩
        refine (of_any w6 A6 c6 id xs xs.length r6 rfl (by omega)).mono ?_
        rintro e w7 ⟨v7, rfl, o7, k7⟩
        have k17 := k06.trans k7
        obtain ⟨A7, c7, rfl, -, -, r7⟩ := o7.rd
        go_wp2_with fail
        have hlo : (ofL id xs).length ≤ 1000000 := by have := List.length_filter_le (fun o : XOp => o.tenant == id) xs; unfold ofL; omega
        refine (sameOps_any w7 A7 D c7 dd (ofL id xs) (ofL id xs) _ _ r7 (HT.out.2.2.2.old k17) rfl rfl hlo hlo).mono ?_
        rw [decide_eq_true rfl]
        rintro e w8 ⟨rfl, k8⟩
        have k18 := k17.trans k8
        have R1 := HT.out.1.old k18
        have R2 := HT.out.2.1.old k18
        have R3 := HT.out.2.2.1.old k18
        have k08 := k0r.trans k18
        clear HT o7 r6 r7 k7 k8 k06 k17 k18 k0r hF hw5
        go_wp2
        go_loopw [85] (fun i wr => ∃ k : Nat, k ≤ a.length ∧ i = .int .i64 k ∧ Keeps (fun _ => False) w8 wr) (fun i _ => a.length - (intOf i).toNat)
        case atStart => exact ⟨0, Nat.zero_le _, rfl, Keeps.refl _ _⟩
        case round =>
          obtain ⟨k, hk, rfl, kp⟩ := hrel
          by_cases hlt : k < a.length
          · obtain ⟨b1', o1, s1, q1, q2, q3, q4', q5', q6, q7, q8, q9, q10, q11, q12, hg, rfl, c0, c1, c2, c3, c4, c5, c6', c7', c8, c9, c10, c11⟩ := rsee (R1.old kp) k hlt
            obtain ⟨b2', o2, s2, y1, y2, y3, y4, y5, y6, hg2, rfl, e0, e1, e2, e3, e4, e5⟩ := rans (R3.old kp) k (by rw [List.length_map]; exact hlt)
            have hk1 : decide ((k : Int) < a.length) = true := by simp; omega
            have hk2 : (k : Int) < a.length := by omega
            have hxy : (⟨y1, y2, y3, y4, y5, y6⟩ : XAns) = ⟨q7, q8, q9, q10, q11, q12⟩ := by
              rw [List.getElem?_map, hg] at hg2
              simp at hg2; simp [hg2]
            have e1' : ansEq y1 y2 y3 y4 y5 y6 q7 q8 q9 q10 q11 q12 = true := decide_eq_true hxy
            clear hxy hg hg2 q4 q5
            go_wp2
            go_quiet (fail)
            go_wp2
            go_roundw
            case rel => exact ⟨k + 1, by omega, by go_num, kp.trans ((Keeps.refl _ _).drewN _)⟩
            case measure => simp [intOf]; omega
          · have hk1 : decide ((k : Int) < a.length) = false := by simp; omega
            have k0x := k08.trans kp
            have z4 := q4 _ k0x
            have z5 := fun (wx : World) (kk : Keeps (fun _ => False) w wx) => q5 wx kk
            have y4 := fun (wx : World) (kk : Keeps (fun _ => False) w8 wx) => refAlike_any wx C1 C2 d1 d2 a b a.length b.length (R1.old kk) (R2.old kk) rfl rfl (by omega) (by omega)
            have y5 := fun (wx : World) (kk : Keeps (fun _ => False) w8 wx) => refLeaks_any wx C1 C2 d1 d2 a b a.length b.length (R1.old kk) (R2.old kk) rfl rfl (by omega) (by omega)
            clear q4 q5
            generalize alikeL a b = rr at *
            generalize leaksL a b = ll at *
            have e1 : (rr == rr) = true := by simp
            have e2 : (ll == ll) = true := by simp
            go_wp2_with fail
            refine z4.mono ?_
            rintro e x1 ⟨rfl, t1⟩
            go_wp2_with fail
            refine (y4 x1 (kp.trans t1)).mono ?_
            rintro e x2 ⟨rfl, t2⟩
            go_wp2_with fail
            refine (z5 x2 ((k0x.trans t1).trans t2)).mono ?_
            rintro e x3 ⟨rfl, t3⟩
            go_wp2_with fail
            refine (y5 x3 (((kp.trans t1).trans t2).trans t3)).mono ?_
            rintro e x4 ⟨rfl, t4⟩
            go_wp2
            go_ret
            exact ⟨rfl, ((((k0x.trans t1).trans t2).trans t3).trans t4).below⟩
  · have hsp : 300 < xs.length ∨ (xs.length ≤ 300 ∧ 300 < ys.length) ∨ (xs.length ≤ 300 ∧ ys.length ≤ 300 ∧ 300 < xs2.length) ∨ (xs.length ≤ 300 ∧ ys.length ≤ 300 ∧ xs2.length ≤ 300 ∧ 300 < ys2.length) := by omega
    clear hbig ha hb ha2 hb2 hA hA2 hm1 hm2
    unfold maxLen at hx hy hx2 hy2
    have hdec : ∀ n : Nat, (300 < n → decide ((n : Int) > 300) = true) ∧ (n ≤ 300 → decide ((n : Int) > 300) = false) := fun n => ⟨fun h => by simp; omega, fun h => by simp; omega⟩
    rcases hsp with h1 | ⟨h1, h2⟩ | ⟨h1, h2, h3⟩ | ⟨h1, h2, h3, h4⟩
    all_goals
      first | have e1 := (hdec _).1 h1 | have e1 := (hdec _).2 h1
      first | have e2 := (hdec _).1 h2 | have e2 := (hdec _).2 h2 | skip
      first | have e3 := (hdec _).1 h3 | have e3 := (hdec _).2 h3 | skip
      first | have e4 := (hdec _).1 h4 | have e4 := (hdec _).2 h4 | skip
      clear hdec
      go_enter Try.func3, Try.ntmps3
      go_wp2_with fail
      refine (awake_any w).mono ?_
      rintro e w1 ⟨rfl, k1⟩
      go_wp2_with fail
      refine (awake_any w1).mono ?_
      rintro e w2 ⟨rfl, k2⟩
      go_wp2
      go_ret
      exact ⟨rfl, (k1.trans k2).below⟩
end Proj
end Go.Proofs.Ytmlolkjgniodpaa
