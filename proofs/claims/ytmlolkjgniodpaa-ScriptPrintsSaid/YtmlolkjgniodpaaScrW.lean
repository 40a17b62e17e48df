/- The script package's pen: step, of kinds without a handle. -/
import Derived.Test.YtmlolkjgniodpaaScrU
set_option linter.unusedVariables false
set_option linter.unusedSimpArgs false
namespace Go.Proofs.Ytmlolkjgniodpaa
open Go.RowKit Go.ChangeMaps
attribute [-go_sem] run_index_string run_neq_struct run_eql_struct run_equalIn_agg
namespace Scr
set_option maxRecDepth 100000 in
set_option maxHeartbeats 8000000 in
theorem pstepO (w : World) (b : Nat) (v : Value) (out : Bs) (bad : Bool) (x : Stp) (hH : hasH x.kind = false) (hp : PAt w b v out bad) (hl : out.length ≤ 10000000) (hdl : x.data.length ≤ 1000000) (hh0 : 0 ≤ x.handle) (hh1 : x.handle < 18446744073709551616)
    (hn : -9223372036854775808 ≤ x.n ∧ x.n ≤ 9223372036854775807) (hm : -9223372036854775808 ≤ x.m ∧ x.m ≤ 9223372036854775807) :
    Calls Try.prog 65 #[.pointer (some ⟨b, 0, none⟩), .agg #[.int .i64 x.kind, .int .i64 x.tenant, .int .i64 x.n, .int .i64 x.m, .int .u64 x.handle, .string (bs x.data), .int .i64 x.back]] w fun e w' => e = .returned (.tuple #[]) ∧ PRes w b v out bad x w' := by
  obtain ⟨k, t, n, m, hd, d, bk⟩ := x
  simp only [] at hH hdl hh0 hh1 hn hm
  obtain ⟨hn1, hn2⟩ := hn
  obtain ⟨hm1, hm2⟩ := hm
  have hbl := lt_of hp.1
  have hvl : v.ownBlock ≠ some w.heap.size := fun e => by have := hp.2.1.lt e; omega
  obtain ⟨w1, hw1⟩ : ∃ w1, w.alloc (.cells #[.int .i64 k, .int .i64 t, .int .i64 n, .int .i64 m, .int .u64 hd, .string (bs d), .int .i64 bk] 108) = w1 := ⟨_, rfl⟩
  have ka : Keeps (fun _ => False) w w1 := by rw [← hw1]; exact (Keeps.refl _ _).alloc _
  have P1 : Pen w b w.heap.size v w1 v out bad ⟨k, t, n, m, hd, d, bk⟩ := ⟨hp.keep ka (fun x => x) (fun _ _ x => x), by rw [← hw1]; exact alloc_new _ _, .inl rfl, ka.mono (fun _ _ e => e.elim)⟩
  obtain ⟨xb, hxe⟩ : ∃ xb, w.heap.size = xb := ⟨_, rfl⟩
  rw [hxe] at P1 hvl hbl
  have hx0 : w.heap.size ≤ xb := by omega
  have hne : b ≠ xb := by omega
  obtain ⟨A, cap, hv, -, -, -⟩ := hp.2.1.shape
  obtain ⟨a0, a1, a2, a3, a4, a5, a6⟩ := P1.x.all
  have c1 := cell_of (v := .bool bad) P1.p.1 1 rfl
  have f1 := free_of P1.p.1 1
  have lb1 : b < w1.heap.size := lt_of P1.p.1
  have lx1 : xb < w1.heap.size := lt_of P1.x
  have HBD := Hid.of (bad1_cases bad k t)
  obtain ⟨nb, hnb⟩ : ∃ nb, (bad || !ok1 ⟨k, t, n, m, hd, d, bk⟩) = nb := ⟨_, rfl⟩
  have HNB := Hid.of hnb
  have P2 := P1.bset nb hx0 hne
  obtain ⟨w2, hw2⟩ : ∃ w2, w1.setCell ⟨b, 1, none⟩ (.bool nb) = w2 := ⟨_, rfl⟩
  rw [hw2] at P2
  have HP2 := Hid.of P2
  have HW2 := Hid.of hw2
  have HX := Hid.of (And.intro hx0 (And.intro hne hvl))
  simp only [] at a0 a1 a2 a3 a4 a5 a6
  subst hv
  have HRES : Hid (∀ w' v' out' bad' s, Pen w b xb (.slice A out.length cap) w' v' out' bad' s → bad' = (bad || !ok ⟨k, t, n, m, hd, d, bk⟩) → (ok ⟨k, t, n, m, hd, d, bk⟩ = true → out' = out ++ pb ⟨k, t, n, m, hd, d, bk⟩) → out'.length ≤ out.length + d.length + 20 → PRes w b (.slice A out.length cap) out bad ⟨k, t, n, m, hd, d, bk⟩ w') := Hid.of (fun w' v' out' bad' s h1 h2 h3 h4 => PRes.of h1 h2 h3 h4)
  generalize hQ : (fun (e : Ending) w' => e = Ending.returned (.tuple #[]) ∧ PRes w b (.slice A out.length cap) out bad ⟨k, t, n, m, hd, d, bk⟩ w') = QQ
  have HQ : Hid (∀ w', PRes w b (.slice A out.length cap) out bad ⟨k, t, n, m, hd, d, bk⟩ w' → QQ (.returned (.tuple #[])) w') := Hid.of (fun w' h => by rw [← hQ]; exact ⟨rfl, h⟩)
  clear P1 P2 hp ka hvl hnb hw2 hQ
  go_enter Try.func65, Try.ntmps65
  try rw [hxe]
  go_upto_region 3 with fail
  go_cut [11] (fun s wx => wx = w2)
  case first =>
    have HO : Hid (nb = (bad || !(decide (0 ≤ k ∧ k < 16) && decide (0 ≤ t ∧ t ≤ 255)))) := Hid.of HNB.out.symm
    rcases HBD.out with rfl | ⟨rfl, h1⟩ | ⟨rfl, h1, h2⟩ | ⟨rfl, h1, h2, h3⟩ | ⟨rfl, h1, h2, h3, h4⟩ | ⟨rfl, h1, h2, h3, h4⟩
    · obtain rfl : nb = true := by rw [HO.out]; rfl
      have hw2 := HW2.out
      go_wp2_with fail
      go_meet
      first | rfl | exact ⟨rfl, rfl⟩
    · obtain rfl : nb = true := by rw [HO.out]; simp; omega
      have d1 : decide (k < 0) = true := by simp; omega
      have hw2 := HW2.out
      go_wp2_with fail
      go_meet
      first | rfl | exact ⟨rfl, rfl⟩
    · obtain rfl : nb = true := by rw [HO.out]; simp; omega
      have d1 : decide (k < 0) = false := by simp; omega
      have d2 : decide (16 ≤ k) = true := by simp; omega
      have hw2 := HW2.out
      go_wp2_with fail
      go_meet
      first | rfl | exact ⟨rfl, rfl⟩
    · obtain rfl : nb = true := by rw [HO.out]; simp; omega
      have d1 : decide (k < 0) = false := by simp; omega
      have d2 : decide (16 ≤ k) = false := by simp; omega
      have d3 : decide (t < 0) = true := by simp; omega
      have hw2 := HW2.out
      go_wp2_with fail
      go_meet
      first | rfl | exact ⟨rfl, rfl⟩
    · obtain rfl : nb = true := by rw [HO.out]; simp; omega
      have d1 : decide (k < 0) = false := by simp; omega
      have d2 : decide (16 ≤ k) = false := by simp; omega
      have d3 : decide (t < 0) = false := by simp; omega
      have d4 : decide (255 < t) = true := by simp; omega
      have hw2 := HW2.out
      go_wp2_with fail
      go_meet
      first | rfl | exact ⟨rfl, rfl⟩
    · obtain rfl : nb = false := by rw [HO.out]; simp; omega
      have d1 : decide (k < 0) = false := by simp; omega
      have d2 : decide (16 ≤ k) = false := by simp; omega
      have d3 : decide (t < 0) = false := by simp; omega
      have d4 : decide (255 < t) = false := by simp; omega
      have hw2 := HW2.out
      go_wp2_with fail
      go_meet
      first | rfl | exact ⟨rfl, rfl⟩
  case rest =>
    first | rw [hcut] | rw [hcut.2]
    clear hcut a0 a1 a2 a3 a4 a5 a6 c1 f1 lb1 lx1 hw1
    obtain ⟨a0, a1, a2, a3, a4, a5, a6⟩ := HP2.out.x.all
    simp only [] at a0 a1 a2 a3 a4 a5 a6
    have c0 := cell_of (v := .slice A out.length cap) HP2.out.p.1 0 rfl
    have lb2 : b < w2.heap.size := lt_of HP2.out.p.1
    have lx2 : xb < w2.heap.size := lt_of HP2.out.x
    have wk : IntKind.u8.wrap k = k % 256 := IntKind.wrap_u8 _
    have wt : IntKind.u8.wrap t = t % 256 := IntKind.wrap_u8 _
    have HPo : Hid (Own w2 5 1 (.slice A out.length cap) out.length (u8s out)) := Hid.of HP2.out.p.2.1
    have HPP : Hid (PAt w2 b (.slice A out.length cap) out nb) := Hid.of HP2.out.p
    have hlo : out.length ≤ 10000000 := hl
    clear hl
    go_wp2
    go_cut [53] (fun s wx => ∃ v4, Pen w b xb (.slice A out.length cap) wx v4 (out ++ [b8 k, b8 t]) nb ⟨k, t, n, m, hd, d, bk⟩)
    case first =>
      go_region_law (refine step_appM slBytes w2.drew rfl _ _ rfl (.slice A out.length cap) out.length 2 (u8s out) rfl HPo.out [.int .u8 (k % 256), .int .u8 (t % 256)] rfl rfl (by simp [Value.oneCell']) (by unfold maxLen; omega) (by omega) ?_; intro v5 w5 o5 k5 at5; obtain ⟨A5, c5, rfl, cc5, ff5, P5, at6, K5⟩ := pen_app (m := 2) (news := [b8 k, b8 t]) (w1 := w2.drew) HPP.out rfl (by rw [two_cells]; exact o5) k5 at5; have HF := Hid.of (And.intro P5 (And.intro at6 K5)); clear o5 k5 at5 P5 K5 at6)
      all_goals
        go_wp2_with fail
        go_meet
        exact ⟨_, HP2.out.call HX.out.1 HF.out.1 (XAt.keep (w := w2) HP2.out.x (HF.out.2.2.of_drew) (fun e => by rcases e with e | e; { exact HX.out.2.1 e.symm }; { exact HX.out.2.2 e })) HF.out.2.1 ((HF.out.2.2.of_drew).mono (fun _ _ e => by rcases e with e | e; { exact .inl e }; { exact .inr (.inl e) }))⟩
    case rest =>
      obtain ⟨v4, P4⟩ := hcut
      clear a0 a1 a2 a3 a4 a5 a6 c0 lb2 lx2 wk wt HPo HPP HP2 HW2 HBD
      obtain ⟨a0, a1, a2, a3, a4, a5, a6⟩ := P4.x.all
      simp only [] at a0 a1 a2 a3 a4 a5 a6
      have hlen4 : (out ++ [b8 k, b8 t]).length ≤ 10000002 := by simp; omega
      have P5 := P4
      obtain ⟨o1, ho1⟩ : ∃ o1, out ++ [b8 k, b8 t] = o1 := ⟨_, rfl⟩
      have HO1 : Hid ((out ++ [b8 k, b8 t]) ++ [] = o1) := Hid.of (by rw [List.append_nil, ho1])
      rw [ho1] at P5 hlen4
      have hl1 : o1.length ≤ 10000050 := by omega
      have HNB2 : Hid (nb = nb) := Hid.of rfl
      obtain ⟨nb2, hnb2⟩ : ∃ q, nb = q := ⟨_, rfl⟩
      have HNB2 : Hid (nb = nb2) := Hid.of hnb2
      rw [hnb2] at P5
      clear ho1 hnb2 a0 a1 a2 a3 a4 a5 a6 hlen4 P4
      have hks : k = 1 ∨ k = 2 ∨ k = 5 ∨ k = 4 ∨ (k ≠ 1 ∧ k ≠ 2 ∧ k ≠ 5 ∧ k ≠ 4 ∧ k < 6) ∨ 11 < k := by
        unfold hasH at hH; simp at hH; omega
      rcases hks with rfl | rfl | rfl | rfl | hk | hk
      · have HBAD : Hid ((((nb2 || !in16 n) || !in16 m) || !stEq 0 0 0 0 hd d bk 0 0 0 0 0 [] 0) = (bad || !ok ⟨1, t, n, m, hd, d, bk⟩)) := by
          refine Hid.of ?_
          rw [← HNB2.out, ← HNB.out]
          exact bad_law bad 1 t n m hd d bk false true false false rfl rfl rfl rfl rfl rfl rfl
        have HOUT : Hid (ok ⟨1, t, n, m, hd, d, bk⟩ = true → (o1 ++ le16 n ++ le16 m) = out ++ pb ⟨1, t, n, m, hd, d, bk⟩) := Hid.of (fun _ => by rw [← HO1.out, List.append_assoc]; exact out_law out 1 t n m hd d bk false true false false rfl rfl rfl rfl)
        have HLEN : Hid ((o1 ++ le16 n ++ le16 m).length ≤ out.length + d.length + 20) := Hid.of (by
          rw [← HO1.out]
          have hbl9 := hb_len ⟨1, t, n, m, hd, d, bk⟩
          simp only [le16, List.length_append, List.length_cons, List.length_nil]
          omega)
        go_wp2_with fail
        refine (pnum_any _ b xb 2 v4 o1 nb2 n _ _ P5.p P5.x rfl HX.out.2.1 (P5.vx HX.out.2.2) (by omega) hn1 hn2).mono ?_
        rintro e w6 ⟨rfl, v6, p6, x6, at6, k6⟩
        have P6 : Pen w b xb (.slice A out.length cap) w6 v6 (o1 ++ le16 n) (nb2 || !in16 n) ⟨1, t, 0, m, hd, d, bk⟩ := P5.call HX.out.1 p6 (by exact x6) at6 k6
        clear p6 x6 at6 k6 P5
        have hl6 : (o1 ++ le16 n).length ≤ 10000100 := by simp [le16]; omega
        go_wp2_with fail
        refine (pnum_any _ b xb 3 v6 (o1 ++ le16 n) (nb2 || !in16 n) m _ _ P6.p P6.x rfl HX.out.2.1 (P6.vx HX.out.2.2) (by omega) hm1 hm2).mono ?_
        rintro e w7 ⟨rfl, v7, p7, x7, at7, k7⟩
        have P7 : Pen w b xb (.slice A out.length cap) w7 v7 (o1 ++ le16 n ++ le16 m) ((nb2 || !in16 n) || !in16 m) ⟨1, t, 0, 0, hd, d, bk⟩ := P6.call HX.out.1 p7 (by exact x7) at7 k7
        clear p7 x7 at7 k7 P6
        obtain ⟨nbq, hnbq⟩ : ∃ q, ((nb2 || !in16 n) || !in16 m) = q := ⟨_, rfl⟩
        have HNQ := Hid.of hnbq
        rw [hnbq] at P7
        clear hnbq
        obtain ⟨g0, g1, g2, g3, g4, g5, g6⟩ := P7.x.free
        obtain ⟨i0, i1, i2, i3, i4, i5, i6⟩ := P7.x.all
        simp only [] at i0 i1 i2 i3 i4 i5 i6
        have k8 := (kset w7 xb 0 (.int .i64 0)).trans (kset _ xb 1 (.int .i64 0))
        have P8 : Pen w b xb (.slice A out.length cap) ((w7.setCell ⟨xb, 0, none⟩ (.int .i64 0)).setCell ⟨xb, 1, none⟩ (.int .i64 0)) v7 (o1 ++ le16 n ++ le16 m) nbq ⟨0, 0, 0, 0, hd, d, bk⟩ := P7.xset HX.out.1 HX.out.2.1 HX.out.2.2 ((P7.x.set_kind 0).set_tenant 0) k8
        obtain ⟨w8, hw8⟩ : ∃ w8, (w7.setCell ⟨xb, 0, none⟩ (.int .i64 0)).setCell ⟨xb, 1, none⟩ (.int .i64 0) = w8 := ⟨_, rfl⟩
        rw [hw8] at P8
        clear k8 P7
        obtain ⟨j0, j1, j2, j3, j4, j5, j6⟩ := P8.x.all
        simp only [] at j0 j1 j2 j3 j4 j5 j6
        have z1 := cell_of (v := .bool nbq) P8.p.1 1 rfl
        have y1 := free_of P8.p.1 1
        have nq : ∀ w, (binOp .neq 108 (.agg #[.int .i64 0, .int .i64 0, .int .i64 0, .int .i64 0, .int .u64 hd, .string (bs d), .int .i64 bk]) (.agg #[.int .i64 0, .int .i64 0, .int .i64 0, .int .i64 0, .int .u64 0, .string ⟨#[]⟩, .int .i64 0])).run Try.prog w = .ok (.bool (!stEq 0 0 0 0 hd d bk 0 0 0 0 0 [] 0)) w := fun w => neq_stp w 0 0 0 0 hd bk 0 0 0 0 0 0 d []
        obtain ⟨E, hE⟩ : ∃ E, stEq 0 0 0 0 hd d bk 0 0 0 0 0 [] 0 = E := ⟨_, rfl⟩
        have HE := Hid.of hE
        rw [hE] at nq
        clear hE
        have hfin : ∀ q, q = (nbq || !E) → PRes w b (.slice A out.length cap) out bad ⟨1, t, n, m, hd, d, bk⟩ (w8.setCell ⟨b, 1, none⟩ (.bool q)) := by
          intro q hq
          refine HRES.out _ _ _ _ _ (P8.bset q HX.out.1 HX.out.2.1) ?_ ?_ ?_
          · rw [hq, ← HNQ.out, ← HE.out]
            exact HBAD.out
          · exact HOUT.out
          · exact HLEN.out
        have HFIN := Hid.of hfin
        clear hfin P8
        cases nbq
        · obtain ⟨w9, hw9⟩ : ∃ w9, w8.setCell ⟨b, 1, none⟩ (.bool (!E)) = w9 := ⟨_, rfl⟩
          have hR := HFIN.out (!E) rfl
          rw [hw9] at hR
          have HR := Hid.of hR
          clear hR
          go_wp2
          go_end0
          exact HQ.out _ HR.out
        · obtain ⟨w9, hw9⟩ : ∃ w9, w8.setCell ⟨b, 1, none⟩ (.bool true) = w9 := ⟨_, rfl⟩
          have hR := HFIN.out true rfl
          rw [hw9] at hR
          have HR := Hid.of hR
          clear hR
          go_wp2
          go_end0
          exact HQ.out _ HR.out
      · have HBAD : Hid ((((nb2 || !in16 n) || !in16 m) || !stEq 0 0 0 0 hd d bk 0 0 0 0 0 [] 0) = (bad || !ok ⟨2, t, n, m, hd, d, bk⟩)) := by
          refine Hid.of ?_
          rw [← HNB2.out, ← HNB.out]
          exact bad_law bad 2 t n m hd d bk false true false false rfl rfl rfl rfl rfl rfl rfl
        have HOUT : Hid (ok ⟨2, t, n, m, hd, d, bk⟩ = true → (o1 ++ le16 n ++ le16 m) = out ++ pb ⟨2, t, n, m, hd, d, bk⟩) := Hid.of (fun _ => by rw [← HO1.out, List.append_assoc]; exact out_law out 2 t n m hd d bk false true false false rfl rfl rfl rfl)
        have HLEN : Hid ((o1 ++ le16 n ++ le16 m).length ≤ out.length + d.length + 20) := Hid.of (by
          rw [← HO1.out]
          have hbl9 := hb_len ⟨2, t, n, m, hd, d, bk⟩
          simp only [le16, List.length_append, List.length_cons, List.length_nil]
          omega)
        go_wp2_with fail
        refine (pnum_any _ b xb 2 v4 o1 nb2 n _ _ P5.p P5.x rfl HX.out.2.1 (P5.vx HX.out.2.2) (by omega) hn1 hn2).mono ?_
        rintro e w6 ⟨rfl, v6, p6, x6, at6, k6⟩
        have P6 : Pen w b xb (.slice A out.length cap) w6 v6 (o1 ++ le16 n) (nb2 || !in16 n) ⟨2, t, 0, m, hd, d, bk⟩ := P5.call HX.out.1 p6 (by exact x6) at6 k6
        clear p6 x6 at6 k6 P5
        have hl6 : (o1 ++ le16 n).length ≤ 10000100 := by simp [le16]; omega
        go_wp2_with fail
        refine (pnum_any _ b xb 3 v6 (o1 ++ le16 n) (nb2 || !in16 n) m _ _ P6.p P6.x rfl HX.out.2.1 (P6.vx HX.out.2.2) (by omega) hm1 hm2).mono ?_
        rintro e w7 ⟨rfl, v7, p7, x7, at7, k7⟩
        have P7 : Pen w b xb (.slice A out.length cap) w7 v7 (o1 ++ le16 n ++ le16 m) ((nb2 || !in16 n) || !in16 m) ⟨2, t, 0, 0, hd, d, bk⟩ := P6.call HX.out.1 p7 (by exact x7) at7 k7
        clear p7 x7 at7 k7 P6
        obtain ⟨nbq, hnbq⟩ : ∃ q, ((nb2 || !in16 n) || !in16 m) = q := ⟨_, rfl⟩
        have HNQ := Hid.of hnbq
        rw [hnbq] at P7
        clear hnbq
        obtain ⟨g0, g1, g2, g3, g4, g5, g6⟩ := P7.x.free
        obtain ⟨i0, i1, i2, i3, i4, i5, i6⟩ := P7.x.all
        simp only [] at i0 i1 i2 i3 i4 i5 i6
        have k8 := (kset w7 xb 0 (.int .i64 0)).trans (kset _ xb 1 (.int .i64 0))
        have P8 : Pen w b xb (.slice A out.length cap) ((w7.setCell ⟨xb, 0, none⟩ (.int .i64 0)).setCell ⟨xb, 1, none⟩ (.int .i64 0)) v7 (o1 ++ le16 n ++ le16 m) nbq ⟨0, 0, 0, 0, hd, d, bk⟩ := P7.xset HX.out.1 HX.out.2.1 HX.out.2.2 ((P7.x.set_kind 0).set_tenant 0) k8
        obtain ⟨w8, hw8⟩ : ∃ w8, (w7.setCell ⟨xb, 0, none⟩ (.int .i64 0)).setCell ⟨xb, 1, none⟩ (.int .i64 0) = w8 := ⟨_, rfl⟩
        rw [hw8] at P8
        clear k8 P7
        obtain ⟨j0, j1, j2, j3, j4, j5, j6⟩ := P8.x.all
        simp only [] at j0 j1 j2 j3 j4 j5 j6
        have z1 := cell_of (v := .bool nbq) P8.p.1 1 rfl
        have y1 := free_of P8.p.1 1
        have nq : ∀ w, (binOp .neq 108 (.agg #[.int .i64 0, .int .i64 0, .int .i64 0, .int .i64 0, .int .u64 hd, .string (bs d), .int .i64 bk]) (.agg #[.int .i64 0, .int .i64 0, .int .i64 0, .int .i64 0, .int .u64 0, .string ⟨#[]⟩, .int .i64 0])).run Try.prog w = .ok (.bool (!stEq 0 0 0 0 hd d bk 0 0 0 0 0 [] 0)) w := fun w => neq_stp w 0 0 0 0 hd bk 0 0 0 0 0 0 d []
        obtain ⟨E, hE⟩ : ∃ E, stEq 0 0 0 0 hd d bk 0 0 0 0 0 [] 0 = E := ⟨_, rfl⟩
        have HE := Hid.of hE
        rw [hE] at nq
        clear hE
        have hfin : ∀ q, q = (nbq || !E) → PRes w b (.slice A out.length cap) out bad ⟨2, t, n, m, hd, d, bk⟩ (w8.setCell ⟨b, 1, none⟩ (.bool q)) := by
          intro q hq
          refine HRES.out _ _ _ _ _ (P8.bset q HX.out.1 HX.out.2.1) ?_ ?_ ?_
          · rw [hq, ← HNQ.out, ← HE.out]
            exact HBAD.out
          · exact HOUT.out
          · exact HLEN.out
        have HFIN := Hid.of hfin
        clear hfin P8
        cases nbq
        · obtain ⟨w9, hw9⟩ : ∃ w9, w8.setCell ⟨b, 1, none⟩ (.bool (!E)) = w9 := ⟨_, rfl⟩
          have hR := HFIN.out (!E) rfl
          rw [hw9] at hR
          have HR := Hid.of hR
          clear hR
          go_wp2
          go_end0
          exact HQ.out _ HR.out
        · obtain ⟨w9, hw9⟩ : ∃ w9, w8.setCell ⟨b, 1, none⟩ (.bool true) = w9 := ⟨_, rfl⟩
          have hR := HFIN.out true rfl
          rw [hw9] at hR
          have HR := Hid.of hR
          clear hR
          go_wp2
          go_end0
          exact HQ.out _ HR.out
      · have HBAD : Hid ((((nb2 || !in16 n) || !in16 m) || !stEq 0 0 0 0 hd d bk 0 0 0 0 0 [] 0) = (bad || !ok ⟨5, t, n, m, hd, d, bk⟩)) := by
          refine Hid.of ?_
          rw [← HNB2.out, ← HNB.out]
          exact bad_law bad 5 t n m hd d bk false true false false rfl rfl rfl rfl rfl rfl rfl
        have HOUT : Hid (ok ⟨5, t, n, m, hd, d, bk⟩ = true → (o1 ++ le16 n ++ le16 m) = out ++ pb ⟨5, t, n, m, hd, d, bk⟩) := Hid.of (fun _ => by rw [← HO1.out, List.append_assoc]; exact out_law out 5 t n m hd d bk false true false false rfl rfl rfl rfl)
        have HLEN : Hid ((o1 ++ le16 n ++ le16 m).length ≤ out.length + d.length + 20) := Hid.of (by
          rw [← HO1.out]
          have hbl9 := hb_len ⟨5, t, n, m, hd, d, bk⟩
          simp only [le16, List.length_append, List.length_cons, List.length_nil]
          omega)
        go_wp2_with fail
        refine (pnum_any _ b xb 2 v4 o1 nb2 n _ _ P5.p P5.x rfl HX.out.2.1 (P5.vx HX.out.2.2) (by omega) hn1 hn2).mono ?_
        rintro e w6 ⟨rfl, v6, p6, x6, at6, k6⟩
        have P6 : Pen w b xb (.slice A out.length cap) w6 v6 (o1 ++ le16 n) (nb2 || !in16 n) ⟨5, t, 0, m, hd, d, bk⟩ := P5.call HX.out.1 p6 (by exact x6) at6 k6
        clear p6 x6 at6 k6 P5
        have hl6 : (o1 ++ le16 n).length ≤ 10000100 := by simp [le16]; omega
        go_wp2_with fail
        refine (pnum_any _ b xb 3 v6 (o1 ++ le16 n) (nb2 || !in16 n) m _ _ P6.p P6.x rfl HX.out.2.1 (P6.vx HX.out.2.2) (by omega) hm1 hm2).mono ?_
        rintro e w7 ⟨rfl, v7, p7, x7, at7, k7⟩
        have P7 : Pen w b xb (.slice A out.length cap) w7 v7 (o1 ++ le16 n ++ le16 m) ((nb2 || !in16 n) || !in16 m) ⟨5, t, 0, 0, hd, d, bk⟩ := P6.call HX.out.1 p7 (by exact x7) at7 k7
        clear p7 x7 at7 k7 P6
        obtain ⟨nbq, hnbq⟩ : ∃ q, ((nb2 || !in16 n) || !in16 m) = q := ⟨_, rfl⟩
        have HNQ := Hid.of hnbq
        rw [hnbq] at P7
        clear hnbq
        obtain ⟨g0, g1, g2, g3, g4, g5, g6⟩ := P7.x.free
        obtain ⟨i0, i1, i2, i3, i4, i5, i6⟩ := P7.x.all
        simp only [] at i0 i1 i2 i3 i4 i5 i6
        have k8 := (kset w7 xb 0 (.int .i64 0)).trans (kset _ xb 1 (.int .i64 0))
        have P8 : Pen w b xb (.slice A out.length cap) ((w7.setCell ⟨xb, 0, none⟩ (.int .i64 0)).setCell ⟨xb, 1, none⟩ (.int .i64 0)) v7 (o1 ++ le16 n ++ le16 m) nbq ⟨0, 0, 0, 0, hd, d, bk⟩ := P7.xset HX.out.1 HX.out.2.1 HX.out.2.2 ((P7.x.set_kind 0).set_tenant 0) k8
        obtain ⟨w8, hw8⟩ : ∃ w8, (w7.setCell ⟨xb, 0, none⟩ (.int .i64 0)).setCell ⟨xb, 1, none⟩ (.int .i64 0) = w8 := ⟨_, rfl⟩
        rw [hw8] at P8
        clear k8 P7
        obtain ⟨j0, j1, j2, j3, j4, j5, j6⟩ := P8.x.all
        simp only [] at j0 j1 j2 j3 j4 j5 j6
        have z1 := cell_of (v := .bool nbq) P8.p.1 1 rfl
        have y1 := free_of P8.p.1 1
        have nq : ∀ w, (binOp .neq 108 (.agg #[.int .i64 0, .int .i64 0, .int .i64 0, .int .i64 0, .int .u64 hd, .string (bs d), .int .i64 bk]) (.agg #[.int .i64 0, .int .i64 0, .int .i64 0, .int .i64 0, .int .u64 0, .string ⟨#[]⟩, .int .i64 0])).run Try.prog w = .ok (.bool (!stEq 0 0 0 0 hd d bk 0 0 0 0 0 [] 0)) w := fun w => neq_stp w 0 0 0 0 hd bk 0 0 0 0 0 0 d []
        obtain ⟨E, hE⟩ : ∃ E, stEq 0 0 0 0 hd d bk 0 0 0 0 0 [] 0 = E := ⟨_, rfl⟩
        have HE := Hid.of hE
        rw [hE] at nq
        clear hE
        have hfin : ∀ q, q = (nbq || !E) → PRes w b (.slice A out.length cap) out bad ⟨5, t, n, m, hd, d, bk⟩ (w8.setCell ⟨b, 1, none⟩ (.bool q)) := by
          intro q hq
          refine HRES.out _ _ _ _ _ (P8.bset q HX.out.1 HX.out.2.1) ?_ ?_ ?_
          · rw [hq, ← HNQ.out, ← HE.out]
            exact HBAD.out
          · exact HOUT.out
          · exact HLEN.out
        have HFIN := Hid.of hfin
        clear hfin P8
        cases nbq
        · obtain ⟨w9, hw9⟩ : ∃ w9, w8.setCell ⟨b, 1, none⟩ (.bool (!E)) = w9 := ⟨_, rfl⟩
          have hR := HFIN.out (!E) rfl
          rw [hw9] at hR
          have HR := Hid.of hR
          clear hR
          go_wp2
          go_end0
          exact HQ.out _ HR.out
        · obtain ⟨w9, hw9⟩ : ∃ w9, w8.setCell ⟨b, 1, none⟩ (.bool true) = w9 := ⟨_, rfl⟩
          have hR := HFIN.out true rfl
          rw [hw9] at hR
          have HR := Hid.of hR
          clear hR
          go_wp2
          go_end0
          exact HQ.out _ HR.out
      · have HBAD : Hid (((nb2 || !in16 n) || !stEq 0 0 0 m hd d bk 0 0 0 0 0 [] 0) = (bad || !ok ⟨4, t, n, m, hd, d, bk⟩)) := by
          refine Hid.of ?_
          rw [← HNB2.out, ← HNB.out]
          exact bad_law bad 4 t n m hd d bk false false true false rfl rfl rfl rfl rfl rfl rfl
        have HOUT : Hid (ok ⟨4, t, n, m, hd, d, bk⟩ = true → (o1 ++ le16 n) = out ++ pb ⟨4, t, n, m, hd, d, bk⟩) := Hid.of (fun _ => by rw [← HO1.out]; exact out_law out 4 t n m hd d bk false false true false rfl rfl rfl rfl)
        have HLEN : Hid ((o1 ++ le16 n).length ≤ out.length + d.length + 20) := Hid.of (by
          rw [← HO1.out]
          have hbl9 := hb_len ⟨4, t, n, m, hd, d, bk⟩
          simp only [le16, List.length_append, List.length_cons, List.length_nil]
          omega)
        go_wp2_with fail
        refine (pnum_any _ b xb 2 v4 o1 nb2 n _ _ P5.p P5.x rfl HX.out.2.1 (P5.vx HX.out.2.2) (by omega) hn1 hn2).mono ?_
        rintro e w6 ⟨rfl, v6, p6, x6, at6, k6⟩
        have P6 : Pen w b xb (.slice A out.length cap) w6 v6 (o1 ++ le16 n) (nb2 || !in16 n) ⟨4, t, 0, m, hd, d, bk⟩ := P5.call HX.out.1 p6 (by exact x6) at6 k6
        clear p6 x6 at6 k6 P5
        obtain ⟨nbq, hnbq⟩ : ∃ q, (nb2 || !in16 n) = q := ⟨_, rfl⟩
        have HNQ := Hid.of hnbq
        rw [hnbq] at P6
        clear hnbq
        obtain ⟨g0, g1, g2, g3, g4, g5, g6⟩ := P6.x.free
        obtain ⟨i0, i1, i2, i3, i4, i5, i6⟩ := P6.x.all
        simp only [] at i0 i1 i2 i3 i4 i5 i6
        have k8 := (kset w6 xb 0 (.int .i64 0)).trans (kset _ xb 1 (.int .i64 0))
        have P8 : Pen w b xb (.slice A out.length cap) ((w6.setCell ⟨xb, 0, none⟩ (.int .i64 0)).setCell ⟨xb, 1, none⟩ (.int .i64 0)) v6 (o1 ++ le16 n) nbq ⟨0, 0, 0, m, hd, d, bk⟩ := P6.xset HX.out.1 HX.out.2.1 HX.out.2.2 ((P6.x.set_kind 0).set_tenant 0) k8
        obtain ⟨w8, hw8⟩ : ∃ w8, (w6.setCell ⟨xb, 0, none⟩ (.int .i64 0)).setCell ⟨xb, 1, none⟩ (.int .i64 0) = w8 := ⟨_, rfl⟩
        rw [hw8] at P8
        clear k8 P6
        obtain ⟨j0, j1, j2, j3, j4, j5, j6⟩ := P8.x.all
        simp only [] at j0 j1 j2 j3 j4 j5 j6
        have z1 := cell_of (v := .bool nbq) P8.p.1 1 rfl
        have y1 := free_of P8.p.1 1
        have nq : ∀ w, (binOp .neq 108 (.agg #[.int .i64 0, .int .i64 0, .int .i64 0, .int .i64 m, .int .u64 hd, .string (bs d), .int .i64 bk]) (.agg #[.int .i64 0, .int .i64 0, .int .i64 0, .int .i64 0, .int .u64 0, .string ⟨#[]⟩, .int .i64 0])).run Try.prog w = .ok (.bool (!stEq 0 0 0 m hd d bk 0 0 0 0 0 [] 0)) w := fun w => neq_stp w 0 0 0 m hd bk 0 0 0 0 0 0 d []
        obtain ⟨E, hE⟩ : ∃ E, stEq 0 0 0 m hd d bk 0 0 0 0 0 [] 0 = E := ⟨_, rfl⟩
        have HE := Hid.of hE
        rw [hE] at nq
        clear hE
        have hfin : ∀ q, q = (nbq || !E) → PRes w b (.slice A out.length cap) out bad ⟨4, t, n, m, hd, d, bk⟩ (w8.setCell ⟨b, 1, none⟩ (.bool q)) := by
          intro q hq
          refine HRES.out _ _ _ _ _ (P8.bset q HX.out.1 HX.out.2.1) ?_ ?_ ?_
          · rw [hq, ← HNQ.out, ← HE.out]
            exact HBAD.out
          · exact HOUT.out
          · exact HLEN.out
        have HFIN := Hid.of hfin
        clear hfin P8
        cases nbq
        · obtain ⟨w9, hw9⟩ : ∃ w9, w8.setCell ⟨b, 1, none⟩ (.bool (!E)) = w9 := ⟨_, rfl⟩
          have hR := HFIN.out (!E) rfl
          rw [hw9] at hR
          have HR := Hid.of hR
          clear hR
          go_wp2
          go_end0
          exact HQ.out _ HR.out
        · obtain ⟨w9, hw9⟩ : ∃ w9, w8.setCell ⟨b, 1, none⟩ (.bool true) = w9 := ⟨_, rfl⟩
          have hR := HFIN.out true rfl
          rw [hw9] at hR
          have HR := Hid.of hR
          clear hR
          go_wp2
          go_end0
          exact HQ.out _ HR.out
      · have hNM : hasNM k = false := by unfold hasNM; simp; omega
        have hN : hasN k = false := by unfold hasN; simp; omega
        have hT : (k == 10) = false := by simp; omega
        have t1 : (k == 1) = false := by simp; omega
        have t2 : (k == 2) = false := by simp; omega
        have t5 : (k == 5) = false := by simp; omega
        have t9 : (k == 9) = false := by simp; omega
        have t4 : (k == 4) = false := by simp; omega
        have t7 : (k == 7) = false := by simp; omega
        have t11 : (k == 11) = false := by simp; omega
        have t10 : (k == 10) = false := by simp; omega
        have g1 : decide (6 ≤ k) = false := by simp; omega
        clear hk
        have HBAD : Hid ((nb2 || !stEq 0 0 n m hd d bk 0 0 0 0 0 [] 0) = (bad || !ok ⟨k, t, n, m, hd, d, bk⟩)) := by
          refine Hid.of ?_
          rw [← HNB2.out, ← HNB.out]
          exact bad_law bad k t n m hd d bk false false false false hH hNM hN hT rfl rfl rfl
        have HOUT : Hid (ok ⟨k, t, n, m, hd, d, bk⟩ = true → o1 = out ++ pb ⟨k, t, n, m, hd, d, bk⟩) := Hid.of (fun _ => by rw [← HO1.out]; exact (List.append_nil _).symm.trans (out_law out k t n m hd d bk false false false false hH hNM hN hT))
        have HLEN : Hid (o1.length ≤ out.length + d.length + 20) := Hid.of (by
          rw [← HO1.out]
          have hbl9 := hb_len ⟨k, t, n, m, hd, d, bk⟩
          simp only [le16, List.length_append, List.length_cons, List.length_nil]
          omega)
        obtain ⟨nbq, hnbq⟩ : ∃ q, nb2 = q := ⟨_, rfl⟩
        have HNQ := Hid.of hnbq
        rw [hnbq] at P5
        clear hnbq
        obtain ⟨g0, g1, g2, g3, g4, g5, g6⟩ := P5.x.free
        obtain ⟨i0, i1, i2, i3, i4, i5, i6⟩ := P5.x.all
        simp only [] at i0 i1 i2 i3 i4 i5 i6
        have k8 := (kset wc xb 0 (.int .i64 0)).trans (kset _ xb 1 (.int .i64 0))
        have P8 : Pen w b xb (.slice A out.length cap) ((wc.setCell ⟨xb, 0, none⟩ (.int .i64 0)).setCell ⟨xb, 1, none⟩ (.int .i64 0)) v4 o1 nbq ⟨0, 0, n, m, hd, d, bk⟩ := P5.xset HX.out.1 HX.out.2.1 HX.out.2.2 ((P5.x.set_kind 0).set_tenant 0) k8
        obtain ⟨w8, hw8⟩ : ∃ w8, (wc.setCell ⟨xb, 0, none⟩ (.int .i64 0)).setCell ⟨xb, 1, none⟩ (.int .i64 0) = w8 := ⟨_, rfl⟩
        rw [hw8] at P8
        clear k8 P5
        obtain ⟨j0, j1, j2, j3, j4, j5, j6⟩ := P8.x.all
        simp only [] at j0 j1 j2 j3 j4 j5 j6
        have z1 := cell_of (v := .bool nbq) P8.p.1 1 rfl
        have y1 := free_of P8.p.1 1
        have nq : ∀ w, (binOp .neq 108 (.agg #[.int .i64 0, .int .i64 0, .int .i64 n, .int .i64 m, .int .u64 hd, .string (bs d), .int .i64 bk]) (.agg #[.int .i64 0, .int .i64 0, .int .i64 0, .int .i64 0, .int .u64 0, .string ⟨#[]⟩, .int .i64 0])).run Try.prog w = .ok (.bool (!stEq 0 0 n m hd d bk 0 0 0 0 0 [] 0)) w := fun w => neq_stp w 0 0 n m hd bk 0 0 0 0 0 0 d []
        obtain ⟨E, hE⟩ : ∃ E, stEq 0 0 n m hd d bk 0 0 0 0 0 [] 0 = E := ⟨_, rfl⟩
        have HE := Hid.of hE
        rw [hE] at nq
        clear hE
        have hfin : ∀ q, q = (nbq || !E) → PRes w b (.slice A out.length cap) out bad ⟨k, t, n, m, hd, d, bk⟩ (w8.setCell ⟨b, 1, none⟩ (.bool q)) := by
          intro q hq
          refine HRES.out _ _ _ _ _ (P8.bset q HX.out.1 HX.out.2.1) ?_ ?_ ?_
          · rw [hq, ← HNQ.out, ← HE.out]
            exact HBAD.out
          · exact HOUT.out
          · exact HLEN.out
        have HFIN := Hid.of hfin
        clear hfin P8
        cases nbq
        · obtain ⟨w9, hw9⟩ : ∃ w9, w8.setCell ⟨b, 1, none⟩ (.bool (!E)) = w9 := ⟨_, rfl⟩
          have hR := HFIN.out (!E) rfl
          rw [hw9] at hR
          have HR := Hid.of hR
          clear hR
          go_wp2
          go_end0
          exact HQ.out _ HR.out
        · obtain ⟨w9, hw9⟩ : ∃ w9, w8.setCell ⟨b, 1, none⟩ (.bool true) = w9 := ⟨_, rfl⟩
          have hR := HFIN.out true rfl
          rw [hw9] at hR
          have HR := Hid.of hR
          clear hR
          go_wp2
          go_end0
          exact HQ.out _ HR.out
      · have hNM : hasNM k = false := by unfold hasNM; simp; omega
        have hN : hasN k = false := by unfold hasN; simp; omega
        have hT : (k == 10) = false := by simp; omega
        have t1 : (k == 1) = false := by simp; omega
        have t2 : (k == 2) = false := by simp; omega
        have t5 : (k == 5) = false := by simp; omega
        have t9 : (k == 9) = false := by simp; omega
        have t4 : (k == 4) = false := by simp; omega
        have t7 : (k == 7) = false := by simp; omega
        have t11 : (k == 11) = false := by simp; omega
        have t10 : (k == 10) = false := by simp; omega
        have g1 : decide (6 ≤ k) = true := by simp; omega
        have g2 : decide (k ≤ 11) = false := by simp; omega
        clear hk
        have HBAD : Hid ((nb2 || !stEq 0 0 n m hd d bk 0 0 0 0 0 [] 0) = (bad || !ok ⟨k, t, n, m, hd, d, bk⟩)) := by
          refine Hid.of ?_
          rw [← HNB2.out, ← HNB.out]
          exact bad_law bad k t n m hd d bk false false false false hH hNM hN hT rfl rfl rfl
        have HOUT : Hid (ok ⟨k, t, n, m, hd, d, bk⟩ = true → o1 = out ++ pb ⟨k, t, n, m, hd, d, bk⟩) := Hid.of (fun _ => by rw [← HO1.out]; exact (List.append_nil _).symm.trans (out_law out k t n m hd d bk false false false false hH hNM hN hT))
        have HLEN : Hid (o1.length ≤ out.length + d.length + 20) := Hid.of (by
          rw [← HO1.out]
          have hbl9 := hb_len ⟨k, t, n, m, hd, d, bk⟩
          simp only [le16, List.length_append, List.length_cons, List.length_nil]
          omega)
        obtain ⟨nbq, hnbq⟩ : ∃ q, nb2 = q := ⟨_, rfl⟩
        have HNQ := Hid.of hnbq
        rw [hnbq] at P5
        clear hnbq
        obtain ⟨g0, g1, g2, g3, g4, g5, g6⟩ := P5.x.free
        obtain ⟨i0, i1, i2, i3, i4, i5, i6⟩ := P5.x.all
        simp only [] at i0 i1 i2 i3 i4 i5 i6
        have k8 := (kset wc xb 0 (.int .i64 0)).trans (kset _ xb 1 (.int .i64 0))
        have P8 : Pen w b xb (.slice A out.length cap) ((wc.setCell ⟨xb, 0, none⟩ (.int .i64 0)).setCell ⟨xb, 1, none⟩ (.int .i64 0)) v4 o1 nbq ⟨0, 0, n, m, hd, d, bk⟩ := P5.xset HX.out.1 HX.out.2.1 HX.out.2.2 ((P5.x.set_kind 0).set_tenant 0) k8
        obtain ⟨w8, hw8⟩ : ∃ w8, (wc.setCell ⟨xb, 0, none⟩ (.int .i64 0)).setCell ⟨xb, 1, none⟩ (.int .i64 0) = w8 := ⟨_, rfl⟩
        rw [hw8] at P8
        clear k8 P5
        obtain ⟨j0, j1, j2, j3, j4, j5, j6⟩ := P8.x.all
        simp only [] at j0 j1 j2 j3 j4 j5 j6
        have z1 := cell_of (v := .bool nbq) P8.p.1 1 rfl
        have y1 := free_of P8.p.1 1
        have nq : ∀ w, (binOp .neq 108 (.agg #[.int .i64 0, .int .i64 0, .int .i64 n, .int .i64 m, .int .u64 hd, .string (bs d), .int .i64 bk]) (.agg #[.int .i64 0, .int .i64 0, .int .i64 0, .int .i64 0, .int .u64 0, .string ⟨#[]⟩, .int .i64 0])).run Try.prog w = .ok (.bool (!stEq 0 0 n m hd d bk 0 0 0 0 0 [] 0)) w := fun w => neq_stp w 0 0 n m hd bk 0 0 0 0 0 0 d []
        obtain ⟨E, hE⟩ : ∃ E, stEq 0 0 n m hd d bk 0 0 0 0 0 [] 0 = E := ⟨_, rfl⟩
        have HE := Hid.of hE
        rw [hE] at nq
        clear hE
        have hfin : ∀ q, q = (nbq || !E) → PRes w b (.slice A out.length cap) out bad ⟨k, t, n, m, hd, d, bk⟩ (w8.setCell ⟨b, 1, none⟩ (.bool q)) := by
          intro q hq
          refine HRES.out _ _ _ _ _ (P8.bset q HX.out.1 HX.out.2.1) ?_ ?_ ?_
          · rw [hq, ← HNQ.out, ← HE.out]
            exact HBAD.out
          · exact HOUT.out
          · exact HLEN.out
        have HFIN := Hid.of hfin
        clear hfin P8
        cases nbq
        · obtain ⟨w9, hw9⟩ : ∃ w9, w8.setCell ⟨b, 1, none⟩ (.bool (!E)) = w9 := ⟨_, rfl⟩
          have hR := HFIN.out (!E) rfl
          rw [hw9] at hR
          have HR := Hid.of hR
          clear hR
          go_wp2
          go_end0
          exact HQ.out _ HR.out
        · obtain ⟨w9, hw9⟩ : ∃ w9, w8.setCell ⟨b, 1, none⟩ (.bool true) = w9 := ⟨_, rfl⟩
          have hR := HFIN.out true rfl
          rw [hw9] at hR
          have HR := Hid.of hR
          clear hR
          go_wp2
          go_end0
          exact HQ.out _ HR.out
end Scr
end Go.Proofs.Ytmlolkjgniodpaa
