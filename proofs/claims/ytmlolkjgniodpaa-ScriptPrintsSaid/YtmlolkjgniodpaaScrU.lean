/- The script package's pen: step. -/
import Derived.Test.YtmlolkjgniodpaaScrV
set_option linter.unusedVariables false
set_option linter.unusedSimpArgs false
namespace Go.Proofs.Ytmlolkjgniodpaa
open Go.RowKit Go.ChangeMaps
attribute [-go_sem] run_index_string run_neq_struct run_eql_struct run_equalIn_agg
namespace Scr
/-- What a pen has come to behind a step. -/
def PRes (w : World) (b : Nat) (v : Value) (out : Bs) (bad : Bool) (x : Stp) (w' : World) : Prop :=
  ∃ v' out', PAt w' b v' out' (bad || !ok x) ∧ (ok x = true → out' = out ++ pb x) ∧ out'.length ≤ out.length + x.data.length + 20 ∧ (v'.ownBlock = v.ownBlock ∨ ∀ g, v'.ownBlock = some g → w.heap.size ≤ g) ∧ Keeps (fun x => x = b ∨ v.ownBlock = some x) w w'
theorem PRes.of {w0 w : World} {b xb : Nat} {v0 v : Value} {out out' : Bs} {bad bad' : Bool} {x s : Stp} (h : Pen w0 b xb v0 w v out' bad' s) (hb : bad' = (bad || !ok x)) (ho : ok x = true → out' = out ++ pb x) (hl : out'.length ≤ out.length + x.data.length + 20) : PRes w0 b v0 out bad x w :=
  ⟨v, out', hb ▸ h.p, ho, hl, by rcases h.own with q | q; { exact .inl q }; { exact .inr (fun g hg => (q g hg).1) }, h.k⟩
theorem pen_app2 {w1 w5 : World} {b m : Nat} {v v5 : Value} {out news : Bs} {bad : Bool} (h : PAt w1 b v out bad) (hm : news.length = m) (o5 : Own w5 5 1 v5 (out.length + m) (u8s out ++ u8s news)) (k5 : Keeps (fun x => v.ownBlock = some x) w1 w5)
    (at5 : v5.ownBlock = v.ownBlock ∨ v5.ownBlock = some w1.heap.size) :
    ∃ A5 c5, v5 = .slice A5 (out.length + m) c5 ∧ w5.cell? ⟨b, 0, none⟩ = some v ∧ w5.frozen? ⟨b, 0, none⟩ = false ∧ PAt (w5.setCell ⟨b, 0, none⟩ v5) b v5 (out ++ news) bad ∧ (v5.ownBlock = v.ownBlock ∨ ∀ g, v5.ownBlock = some g → w1.heap.size ≤ g) ∧
      Keeps (fun x => x = b ∨ v.ownBlock = some x) w1 (w5.setCell ⟨b, 0, none⟩ v5) := by
  obtain ⟨hb, ho, hvb⟩ := h
  obtain ⟨A5, c5, hv, -, -, -⟩ := o5.shape
  have hb5 := k5.at hb hvb
  have hbl := lt_of hb
  have hvb5 : v5.ownBlock ≠ some b := by
    rcases at5 with e | e
    · rw [e]; exact hvb
    · rw [e]; intro hh; cases hh; omega
  refine ⟨A5, c5, hv, cell_of hb5 0 rfl, free_of hb5 0, ⟨set_of hb5 0 _, ?_, hvb5⟩, ?_, ?_⟩
  · rw [List.length_append, hm, u8s_append]
    exact o5.setCell _ _ hvb5
  · rcases at5 with e | e
    · exact .inl e
    · refine .inr (fun g hg => ?_)
      rw [e] at hg; cases hg; omega
  · exact (k5.mono (fun _ _ e => .inr e)).setCell _ _ (.inl (.inl rfl))
theorem bad1_cases (bad : Bool) (k t : Int) : bad = true ∨ (bad = false ∧ k < 0) ∨ (bad = false ∧ 0 ≤ k ∧ 16 ≤ k) ∨ (bad = false ∧ 0 ≤ k ∧ k < 16 ∧ t < 0) ∨ (bad = false ∧ 0 ≤ k ∧ k < 16 ∧ 0 ≤ t ∧ 255 < t) ∨ (bad = false ∧ 0 ≤ k ∧ k < 16 ∧ 0 ≤ t ∧ t ≤ 255) := by
  cases bad <;> simp <;> omega
theorem two_cells (k t : Int) : u8s [b8 k, b8 t] = [.int .u8 (k % 256), .int .u8 (t % 256)] := by
  unfold u8s
  simp only [List.map_cons, List.map_nil, b8_toNat]
/-- Only the step's block was written. -/
theorem Pen.xset {w0 : World} {b xb : Nat} {v0 : Value} {w w' : World} {v : Value} {out : Bs} {bad : Bool} {s s' : Stp} (h : Pen w0 b xb v0 w v out bad s) (hx0 : w0.heap.size ≤ xb) (hne : b ≠ xb) (h0 : v0.ownBlock ≠ some xb) (hx : XAt w' xb s') (k : Keeps (fun x => x = xb) w w') : Pen w0 b xb v0 w' v out bad s' :=
  h.call hx0 (h.p.keep k hne (fun g hg e => h.vx h0 (by rw [hg, e]))) hx (.inl rfl) (k.mono (fun _ _ e => .inr (.inr e)))
/-- Only 'bad' was written. -/
theorem Pen.bset {w0 : World} {b xb : Nat} {v0 : Value} {w : World} {v : Value} {out : Bs} {bad : Bool} {s : Stp} (nb : Bool) (h : Pen w0 b xb v0 w v out bad s) (hx0 : w0.heap.size ≤ xb) (hne : b ≠ xb) : Pen w0 b xb v0 (w.setCell ⟨b, 1, none⟩ (.bool nb)) v out nb s :=
  h.call hx0 ⟨set_of h.p.1 1 _, h.p.2.1.setCell _ _ (by exact h.p.2.2), h.p.2.2⟩ (h.x.keep (kset w b 1 _) (fun e => hne e.symm)) (.inl rfl) ((kset w b 1 _).mono (fun _ _ e => .inl e))
set_option maxRecDepth 100000 in
set_option maxHeartbeats 8000000 in
theorem pstepH (w : World) (b : Nat) (v : Value) (out : Bs) (bad : Bool) (x : Stp) (hH : hasH x.kind = true) (hp : PAt w b v out bad) (hl : out.length ≤ 10000000) (hdl : x.data.length ≤ 1000000) (hh0 : 0 ≤ x.handle) (hh1 : x.handle < 18446744073709551616)
    (hn : -9223372036854775808 ≤ x.n ∧ x.n ≤ 9223372036854775807) (hm : -9223372036854775808 ≤ x.m ∧ x.m ≤ 9223372036854775807) :
    Calls Try.prog 65 #[.pointer (some ⟨b, 0, none⟩), .agg #[.int .i64 x.kind, .int .i64 x.tenant, .int .i64 x.n, .int .i64 x.m, .int .u64 x.handle, .string (bs x.data), .int .i64 x.back]] w fun e w' => e = .returned (.tuple #[]) ∧ PRes w b v out bad x w' := by
  obtain ⟨k, t, n, m, hd, d, bk⟩ := x
  simp only [] at hH hdl hh0 hh1 hn hm
  obtain ⟨hn1, hn2⟩ := hn
  obtain ⟨hm1, hm2⟩ := hm
  have hbl := lt_of hp.1
  have hvl : v.ownBlock ≠ some w.heap.size := fun e => by have := hp.2.1.lt e; omega
  obtain ⟨w1, hw1⟩ : ∃ w1, w.alloc (.cells #[.int .i64 k, .int .i64 t, .int .i64 n, .int .i64 m, .int .u64 hd, .string (bs d), .int .i64 bk] 108) = w1 := ⟨_, rfl⟩
  have ka : Keeps (fun _ => False) w w1 := by rw [← hw1]; exact (Keeps.refl _ _).alloc _
  have P1 : Pen w b w.heap.size v w1 v out bad ⟨k, t, n, m, hd, d, bk⟩ := ⟨hp.keep ka (fun x => x) (fun _ _ x => x), by rw [← hw1]; exact alloc_new _ _, .inl rfl, ka.mono (fun _ _ e => e.elim)⟩
  obtain ⟨xb, hxe⟩ : ∃ xb, w.heap.size = xb := ⟨_, rfl⟩
  rw [hxe] at P1 hvl hbl
  have hx0 : w.heap.size ≤ xb := by omega
  have hne : b ≠ xb := by omega
  obtain ⟨A, cap, hv, -, -, -⟩ := hp.2.1.shape
  obtain ⟨a0, a1, a2, a3, a4, a5, a6⟩ := P1.x.all
  have c1 := cell_of (v := .bool bad) P1.p.1 1 rfl
  have f1 := free_of P1.p.1 1
  have lb1 : b < w1.heap.size := lt_of P1.p.1
  have lx1 : xb < w1.heap.size := lt_of P1.x
  have HBD := Hid.of (bad1_cases bad k t)
  obtain ⟨nb, hnb⟩ : ∃ nb, (bad || !ok1 ⟨k, t, n, m, hd, d, bk⟩) = nb := ⟨_, rfl⟩
  have HNB := Hid.of hnb
  have P2 := P1.bset nb hx0 hne
  obtain ⟨w2, hw2⟩ : ∃ w2, w1.setCell ⟨b, 1, none⟩ (.bool nb) = w2 := ⟨_, rfl⟩
  rw [hw2] at P2
  have HP2 := Hid.of P2
  have HW2 := Hid.of hw2
  have HX := Hid.of (And.intro hx0 (And.intro hne hvl))
  simp only [] at a0 a1 a2 a3 a4 a5 a6
  subst hv
  have HRES : Hid (∀ w' v' out' bad' s, Pen w b xb (.slice A out.length cap) w' v' out' bad' s → bad' = (bad || !ok ⟨k, t, n, m, hd, d, bk⟩) → (ok ⟨k, t, n, m, hd, d, bk⟩ = true → out' = out ++ pb ⟨k, t, n, m, hd, d, bk⟩) → out'.length ≤ out.length + d.length + 20 → PRes w b (.slice A out.length cap) out bad ⟨k, t, n, m, hd, d, bk⟩ w') := Hid.of (fun w' v' out' bad' s h1 h2 h3 h4 => PRes.of h1 h2 h3 h4)
  generalize hQ : (fun (e : Ending) w' => e = Ending.returned (.tuple #[]) ∧ PRes w b (.slice A out.length cap) out bad ⟨k, t, n, m, hd, d, bk⟩ w') = QQ
  have HQ : Hid (∀ w', PRes w b (.slice A out.length cap) out bad ⟨k, t, n, m, hd, d, bk⟩ w' → QQ (.returned (.tuple #[])) w') := Hid.of (fun w' h => by rw [← hQ]; exact ⟨rfl, h⟩)
  clear P1 P2 hp ka hvl hnb hw2 hQ
  go_enter Try.func65, Try.ntmps65
  try rw [hxe]
  go_upto_region 3 with fail
  go_cut [11] (fun s wx => wx = w2)
  case first =>
    have HO : Hid (nb = (bad || !(decide (0 ≤ k ∧ k < 16) && decide (0 ≤ t ∧ t ≤ 255)))) := Hid.of HNB.out.symm
    rcases HBD.out with rfl | ⟨rfl, h1⟩ | ⟨rfl, h1, h2⟩ | ⟨rfl, h1, h2, h3⟩ | ⟨rfl, h1, h2, h3, h4⟩ | ⟨rfl, h1, h2, h3, h4⟩
    · obtain rfl : nb = true := by rw [HO.out]; rfl
      have hw2 := HW2.out
      go_wp2_with fail
      go_meet
      first | rfl | exact ⟨rfl, rfl⟩
    · obtain rfl : nb = true := by rw [HO.out]; simp; omega
      have d1 : decide (k < 0) = true := by simp; omega
      have hw2 := HW2.out
      go_wp2_with fail
      go_meet
      first | rfl | exact ⟨rfl, rfl⟩
    · obtain rfl : nb = true := by rw [HO.out]; simp; omega
      have d1 : decide (k < 0) = false := by simp; omega
      have d2 : decide (16 ≤ k) = true := by simp; omega
      have hw2 := HW2.out
      go_wp2_with fail
      go_meet
      first | rfl | exact ⟨rfl, rfl⟩
    · obtain rfl : nb = true := by rw [HO.out]; simp; omega
      have d1 : decide (k < 0) = false := by simp; omega
      have d2 : decide (16 ≤ k) = false := by simp; omega
      have d3 : decide (t < 0) = true := by simp; omega
      have hw2 := HW2.out
      go_wp2_with fail
      go_meet
      first | rfl | exact ⟨rfl, rfl⟩
    · obtain rfl : nb = true := by rw [HO.out]; simp; omega
      have d1 : decide (k < 0) = false := by simp; omega
      have d2 : decide (16 ≤ k) = false := by simp; omega
      have d3 : decide (t < 0) = false := by simp; omega
      have d4 : decide (255 < t) = true := by simp; omega
      have hw2 := HW2.out
      go_wp2_with fail
      go_meet
      first | rfl | exact ⟨rfl, rfl⟩
    · obtain rfl : nb = false := by rw [HO.out]; simp; omega
      have d1 : decide (k < 0) = false := by simp; omega
      have d2 : decide (16 ≤ k) = false := by simp; omega
      have d3 : decide (t < 0) = false := by simp; omega
      have d4 : decide (255 < t) = false := by simp; omega
      have hw2 := HW2.out
      go_wp2_with fail
      go_meet
      first | rfl | exact ⟨rfl, rfl⟩
  case rest =>
    first | rw [hcut] | rw [hcut.2]
    clear hcut a0 a1 a2 a3 a4 a5 a6 c1 f1 lb1 lx1 hw1
    obtain ⟨a0, a1, a2, a3, a4, a5, a6⟩ := HP2.out.x.all
    simp only [] at a0 a1 a2 a3 a4 a5 a6
    have c0 := cell_of (v := .slice A out.length cap) HP2.out.p.1 0 rfl
    have lb2 : b < w2.heap.size := lt_of HP2.out.p.1
    have lx2 : xb < w2.heap.size := lt_of HP2.out.x
    have wk : IntKind.u8.wrap k = k % 256 := IntKind.wrap_u8 _
    have wt : IntKind.u8.wrap t = t % 256 := IntKind.wrap_u8 _
    have HPo : Hid (Own w2 5 1 (.slice A out.length cap) out.length (u8s out)) := Hid.of HP2.out.p.2.1
    have HPP : Hid (PAt w2 b (.slice A out.length cap) out nb) := Hid.of HP2.out.p
    have hlo : out.length ≤ 10000000 := hl
    clear hl
    go_wp2
    go_cut [53] (fun s wx => ∃ v4, Pen w b xb (.slice A out.length cap) wx v4 (out ++ [b8 k, b8 t]) nb ⟨k, t, n, m, hd, d, bk⟩)
    case first =>
      go_region_law (refine step_appM slBytes w2.drew rfl _ _ rfl (.slice A out.length cap) out.length 2 (u8s out) rfl HPo.out [.int .u8 (k % 256), .int .u8 (t % 256)] rfl rfl (by simp [Value.oneCell']) (by unfold maxLen; omega) (by omega) ?_; intro v5 w5 o5 k5 at5; obtain ⟨A5, c5, rfl, cc5, ff5, P5, at6, K5⟩ := pen_app (m := 2) (news := [b8 k, b8 t]) (w1 := w2.drew) HPP.out rfl (by rw [two_cells]; exact o5) k5 at5; have HF := Hid.of (And.intro P5 (And.intro at6 K5)); clear o5 k5 at5 P5 K5 at6)
      all_goals
        go_wp2_with fail
        go_meet
        exact ⟨_, HP2.out.call HX.out.1 HF.out.1 (XAt.keep (w := w2) HP2.out.x (HF.out.2.2.of_drew) (fun e => by rcases e with e | e; { exact HX.out.2.1 e.symm }; { exact HX.out.2.2 e })) HF.out.2.1 ((HF.out.2.2.of_drew).mono (fun _ _ e => by rcases e with e | e; { exact .inl e }; { exact .inr (.inl e) }))⟩
    case rest =>
      obtain ⟨v4, P4⟩ := hcut
      clear a0 a1 a2 a3 a4 a5 a6 c0 lb2 lx2 wk wt HPo HPP HP2 HW2 HBD
      obtain ⟨a0, a1, a2, a3, a4, a5, a6⟩ := P4.x.all
      simp only [] at a0 a1 a2 a3 a4 a5 a6
      have hlen4 : (out ++ [b8 k, b8 t]).length ≤ 10000002 := by simp; omega
      have hk6 : 6 ≤ k ∧ k ≤ 11 := by unfold hasH at hH; simpa using hH
      obtain ⟨hk6, hk11⟩ := hk6
      have hdk1 : decide (6 ≤ k) = true := by simp; omega
      have hdk2 : decide (k ≤ 11) = true := by simp; omega
      go_wp2_with fail
      refine (phand_any _ b xb v4 (out ++ [b8 k, b8 t]) nb _ P4.p P4.x HX.out.2.1 (P4.vx HX.out.2.2) (by omega) hh0 hh1).mono ?_
      rintro e w5 ⟨rfl, v5, p5, x5, at5, k5⟩
      have P5 := P4.call HX.out.1 p5 x5 at5 k5
      clear a0 a1 a2 a3 a4 a5 a6 hdk1 hdk2 hlen4 p5 x5 at5 k5 P4
      simp only [] at P5
      obtain ⟨o1, ho1⟩ : ∃ o1, (out ++ [b8 k, b8 t]) ++ hb ⟨k, t, n, m, hd, d, bk⟩ = o1 := ⟨_, rfl⟩
      have HO1 := Hid.of ho1
      have hl1 : o1.length ≤ 10000050 := by
        have := hb_len ⟨k, t, n, m, hd, d, bk⟩
        rw [← ho1]; simp only [List.length_append, List.length_cons, List.length_nil]; omega
      rw [ho1] at P5
      obtain ⟨nb2, hnb2⟩ : ∃ q, (nb || !okH ⟨k, t, n, m, hd, d, bk⟩) = q := ⟨_, rfl⟩
      have HNB2 := Hid.of hnb2
      rw [hnb2] at P5
      clear ho1 hnb2
      have hks : k = 6 ∨ k = 7 ∨ k = 8 ∨ k = 9 ∨ k = 10 ∨ k = 11 := by omega
      clear hk6 hk11 hH
      rcases hks with rfl | rfl | rfl | rfl | rfl | rfl
      · have HBAD : Hid ((nb2 || !stEq 0 0 n m 0 d 0 0 0 0 0 0 [] 0) = (bad || !ok ⟨6, t, n, m, hd, d, bk⟩)) := by
          refine Hid.of ?_
          rw [← HNB2.out, ← HNB.out]
          exact bad_law bad 6 t n m hd d bk true false false false rfl rfl rfl rfl rfl rfl rfl
        have HOUT : Hid (ok ⟨6, t, n, m, hd, d, bk⟩ = true → o1 = out ++ pb ⟨6, t, n, m, hd, d, bk⟩) := Hid.of (fun _ => by rw [← HO1.out]; exact (List.append_nil _).symm.trans (out_law out 6 t n m hd d bk true false false false rfl rfl rfl rfl))
        have HLEN : Hid (o1.length ≤ out.length + d.length + 20) := Hid.of (by
          rw [← HO1.out]
          have hbl9 := hb_len ⟨6, t, n, m, hd, d, bk⟩
          simp only [le16, List.length_append, List.length_cons, List.length_nil]
          omega)
        obtain ⟨nbq, hnbq⟩ : ∃ q, nb2 = q := ⟨_, rfl⟩
        have HNQ := Hid.of hnbq
        rw [hnbq] at P5
        clear hnbq
        obtain ⟨g0, g1, g2, g3, g4, g5, g6⟩ := P5.x.free
        obtain ⟨i0, i1, i2, i3, i4, i5, i6⟩ := P5.x.all
        simp only [] at i0 i1 i2 i3 i4 i5 i6
        have k8 := (kset w5 xb 0 (.int .i64 0)).trans (kset _ xb 1 (.int .i64 0))
        have P8 : Pen w b xb (.slice A out.length cap) ((w5.setCell ⟨xb, 0, none⟩ (.int .i64 0)).setCell ⟨xb, 1, none⟩ (.int .i64 0)) v5 o1 nbq ⟨0, 0, n, m, 0, d, 0⟩ := P5.xset HX.out.1 HX.out.2.1 HX.out.2.2 ((P5.x.set_kind 0).set_tenant 0) k8
        obtain ⟨w8, hw8⟩ : ∃ w8, (w5.setCell ⟨xb, 0, none⟩ (.int .i64 0)).setCell ⟨xb, 1, none⟩ (.int .i64 0) = w8 := ⟨_, rfl⟩
        rw [hw8] at P8
        clear k8 P5
        obtain ⟨j0, j1, j2, j3, j4, j5, j6⟩ := P8.x.all
        simp only [] at j0 j1 j2 j3 j4 j5 j6
        have z1 := cell_of (v := .bool nbq) P8.p.1 1 rfl
        have y1 := free_of P8.p.1 1
        have nq : ∀ w, (binOp .neq 108 (.agg #[.int .i64 0, .int .i64 0, .int .i64 n, .int .i64 m, .int .u64 0, .string (bs d), .int .i64 0]) (.agg #[.int .i64 0, .int .i64 0, .int .i64 0, .int .i64 0, .int .u64 0, .string ⟨#[]⟩, .int .i64 0])).run Try.prog w = .ok (.bool (!stEq 0 0 n m 0 d 0 0 0 0 0 0 [] 0)) w := fun w => neq_stp w 0 0 n m 0 0 0 0 0 0 0 0 d []
        obtain ⟨E, hE⟩ : ∃ E, stEq 0 0 n m 0 d 0 0 0 0 0 0 [] 0 = E := ⟨_, rfl⟩
        have HE := Hid.of hE
        rw [hE] at nq
        clear hE
        have hfin : ∀ q, q = (nbq || !E) → PRes w b (.slice A out.length cap) out bad ⟨6, t, n, m, hd, d, bk⟩ (w8.setCell ⟨b, 1, none⟩ (.bool q)) := by
          intro q hq
          refine HRES.out _ _ _ _ _ (P8.bset q HX.out.1 HX.out.2.1) ?_ ?_ ?_
          · rw [hq, ← HNQ.out, ← HE.out]
            exact HBAD.out
          · exact HOUT.out
          · exact HLEN.out
        have HFIN := Hid.of hfin
        clear hfin P8
        cases nbq
        · obtain ⟨w9, hw9⟩ : ∃ w9, w8.setCell ⟨b, 1, none⟩ (.bool (!E)) = w9 := ⟨_, rfl⟩
          have hR := HFIN.out (!E) rfl
          rw [hw9] at hR
          have HR := Hid.of hR
          clear hR
          go_wp2
          go_end0
          exact HQ.out _ HR.out
        · obtain ⟨w9, hw9⟩ : ∃ w9, w8.setCell ⟨b, 1, none⟩ (.bool true) = w9 := ⟨_, rfl⟩
          have hR := HFIN.out true rfl
          rw [hw9] at hR
          have HR := Hid.of hR
          clear hR
          go_wp2
          go_end0
          exact HQ.out _ HR.out
      · have HBAD : Hid (((nb2 || !in16 n) || !stEq 0 0 0 m 0 d 0 0 0 0 0 0 [] 0) = (bad || !ok ⟨7, t, n, m, hd, d, bk⟩)) := by
          refine Hid.of ?_
          rw [← HNB2.out, ← HNB.out]
          exact bad_law bad 7 t n m hd d bk true false true false rfl rfl rfl rfl rfl rfl rfl
        have HOUT : Hid (ok ⟨7, t, n, m, hd, d, bk⟩ = true → (o1 ++ le16 n) = out ++ pb ⟨7, t, n, m, hd, d, bk⟩) := Hid.of (fun _ => by rw [← HO1.out]; exact out_law out 7 t n m hd d bk true false true false rfl rfl rfl rfl)
        have HLEN : Hid ((o1 ++ le16 n).length ≤ out.length + d.length + 20) := Hid.of (by
          rw [← HO1.out]
          have hbl9 := hb_len ⟨7, t, n, m, hd, d, bk⟩
          simp only [le16, List.length_append, List.length_cons, List.length_nil]
          omega)
        go_wp2_with fail
        refine (pnum_any _ b xb 2 v5 o1 nb2 n _ _ P5.p P5.x rfl HX.out.2.1 (P5.vx HX.out.2.2) (by omega) hn1 hn2).mono ?_
        rintro e w6 ⟨rfl, v6, p6, x6, at6, k6⟩
        have P6 : Pen w b xb (.slice A out.length cap) w6 v6 (o1 ++ le16 n) (nb2 || !in16 n) ⟨7, t, 0, m, 0, d, 0⟩ := P5.call HX.out.1 p6 (by exact x6) at6 k6
        clear p6 x6 at6 k6 P5
        obtain ⟨nbq, hnbq⟩ : ∃ q, (nb2 || !in16 n) = q := ⟨_, rfl⟩
        have HNQ := Hid.of hnbq
        rw [hnbq] at P6
        clear hnbq
        obtain ⟨g0, g1, g2, g3, g4, g5, g6⟩ := P6.x.free
        obtain ⟨i0, i1, i2, i3, i4, i5, i6⟩ := P6.x.all
        simp only [] at i0 i1 i2 i3 i4 i5 i6
        have k8 := (kset w6 xb 0 (.int .i64 0)).trans (kset _ xb 1 (.int .i64 0))
        have P8 : Pen w b xb (.slice A out.length cap) ((w6.setCell ⟨xb, 0, none⟩ (.int .i64 0)).setCell ⟨xb, 1, none⟩ (.int .i64 0)) v6 (o1 ++ le16 n) nbq ⟨0, 0, 0, m, 0, d, 0⟩ := P6.xset HX.out.1 HX.out.2.1 HX.out.2.2 ((P6.x.set_kind 0).set_tenant 0) k8
        obtain ⟨w8, hw8⟩ : ∃ w8, (w6.setCell ⟨xb, 0, none⟩ (.int .i64 0)).setCell ⟨xb, 1, none⟩ (.int .i64 0) = w8 := ⟨_, rfl⟩
        rw [hw8] at P8
        clear k8 P6
        obtain ⟨j0, j1, j2, j3, j4, j5, j6⟩ := P8.x.all
        simp only [] at j0 j1 j2 j3 j4 j5 j6
        have z1 := cell_of (v := .bool nbq) P8.p.1 1 rfl
        have y1 := free_of P8.p.1 1
        have nq : ∀ w, (binOp .neq 108 (.agg #[.int .i64 0, .int .i64 0, .int .i64 0, .int .i64 m, .int .u64 0, .string (bs d), .int .i64 0]) (.agg #[.int .i64 0, .int .i64 0, .int .i64 0, .int .i64 0, .int .u64 0, .string ⟨#[]⟩, .int .i64 0])).run Try.prog w = .ok (.bool (!stEq 0 0 0 m 0 d 0 0 0 0 0 0 [] 0)) w := fun w => neq_stp w 0 0 0 m 0 0 0 0 0 0 0 0 d []
        obtain ⟨E, hE⟩ : ∃ E, stEq 0 0 0 m 0 d 0 0 0 0 0 0 [] 0 = E := ⟨_, rfl⟩
        have HE := Hid.of hE
        rw [hE] at nq
        clear hE
        have hfin : ∀ q, q = (nbq || !E) → PRes w b (.slice A out.length cap) out bad ⟨7, t, n, m, hd, d, bk⟩ (w8.setCell ⟨b, 1, none⟩ (.bool q)) := by
          intro q hq
          refine HRES.out _ _ _ _ _ (P8.bset q HX.out.1 HX.out.2.1) ?_ ?_ ?_
          · rw [hq, ← HNQ.out, ← HE.out]
            exact HBAD.out
          · exact HOUT.out
          · exact HLEN.out
        have HFIN := Hid.of hfin
        clear hfin P8
        cases nbq
        · obtain ⟨w9, hw9⟩ : ∃ w9, w8.setCell ⟨b, 1, none⟩ (.bool (!E)) = w9 := ⟨_, rfl⟩
          have hR := HFIN.out (!E) rfl
          rw [hw9] at hR
          have HR := Hid.of hR
          clear hR
          go_wp2
          go_end0
          exact HQ.out _ HR.out
        · obtain ⟨w9, hw9⟩ : ∃ w9, w8.setCell ⟨b, 1, none⟩ (.bool true) = w9 := ⟨_, rfl⟩
          have hR := HFIN.out true rfl
          rw [hw9] at hR
          have HR := Hid.of hR
          clear hR
          go_wp2
          go_end0
          exact HQ.out _ HR.out
      · have HBAD : Hid ((nb2 || !stEq 0 0 n m 0 d 0 0 0 0 0 0 [] 0) = (bad || !ok ⟨8, t, n, m, hd, d, bk⟩)) := by
          refine Hid.of ?_
          rw [← HNB2.out, ← HNB.out]
          exact bad_law bad 8 t n m hd d bk true false false false rfl rfl rfl rfl rfl rfl rfl
        have HOUT : Hid (ok ⟨8, t, n, m, hd, d, bk⟩ = true → o1 = out ++ pb ⟨8, t, n, m, hd, d, bk⟩) := Hid.of (fun _ => by rw [← HO1.out]; exact (List.append_nil _).symm.trans (out_law out 8 t n m hd d bk true false false false rfl rfl rfl rfl))
        have HLEN : Hid (o1.length ≤ out.length + d.length + 20) := Hid.of (by
          rw [← HO1.out]
          have hbl9 := hb_len ⟨8, t, n, m, hd, d, bk⟩
          simp only [le16, List.length_append, List.length_cons, List.length_nil]
          omega)
        obtain ⟨nbq, hnbq⟩ : ∃ q, nb2 = q := ⟨_, rfl⟩
        have HNQ := Hid.of hnbq
        rw [hnbq] at P5
        clear hnbq
        obtain ⟨g0, g1, g2, g3, g4, g5, g6⟩ := P5.x.free
        obtain ⟨i0, i1, i2, i3, i4, i5, i6⟩ := P5.x.all
        simp only [] at i0 i1 i2 i3 i4 i5 i6
        have k8 := (kset w5 xb 0 (.int .i64 0)).trans (kset _ xb 1 (.int .i64 0))
        have P8 : Pen w b xb (.slice A out.length cap) ((w5.setCell ⟨xb, 0, none⟩ (.int .i64 0)).setCell ⟨xb, 1, none⟩ (.int .i64 0)) v5 o1 nbq ⟨0, 0, n, m, 0, d, 0⟩ := P5.xset HX.out.1 HX.out.2.1 HX.out.2.2 ((P5.x.set_kind 0).set_tenant 0) k8
        obtain ⟨w8, hw8⟩ : ∃ w8, (w5.setCell ⟨xb, 0, none⟩ (.int .i64 0)).setCell ⟨xb, 1, none⟩ (.int .i64 0) = w8 := ⟨_, rfl⟩
        rw [hw8] at P8
        clear k8 P5
        obtain ⟨j0, j1, j2, j3, j4, j5, j6⟩ := P8.x.all
        simp only [] at j0 j1 j2 j3 j4 j5 j6
        have z1 := cell_of (v := .bool nbq) P8.p.1 1 rfl
        have y1 := free_of P8.p.1 1
        have nq : ∀ w, (binOp .neq 108 (.agg #[.int .i64 0, .int .i64 0, .int .i64 n, .int .i64 m, .int .u64 0, .string (bs d), .int .i64 0]) (.agg #[.int .i64 0, .int .i64 0, .int .i64 0, .int .i64 0, .int .u64 0, .string ⟨#[]⟩, .int .i64 0])).run Try.prog w = .ok (.bool (!stEq 0 0 n m 0 d 0 0 0 0 0 0 [] 0)) w := fun w => neq_stp w 0 0 n m 0 0 0 0 0 0 0 0 d []
        obtain ⟨E, hE⟩ : ∃ E, stEq 0 0 n m 0 d 0 0 0 0 0 0 [] 0 = E := ⟨_, rfl⟩
        have HE := Hid.of hE
        rw [hE] at nq
        clear hE
        have hfin : ∀ q, q = (nbq || !E) → PRes w b (.slice A out.length cap) out bad ⟨8, t, n, m, hd, d, bk⟩ (w8.setCell ⟨b, 1, none⟩ (.bool q)) := by
          intro q hq
          refine HRES.out _ _ _ _ _ (P8.bset q HX.out.1 HX.out.2.1) ?_ ?_ ?_
          · rw [hq, ← HNQ.out, ← HE.out]
            exact HBAD.out
          · exact HOUT.out
          · exact HLEN.out
        have HFIN := Hid.of hfin
        clear hfin P8
        cases nbq
        · obtain ⟨w9, hw9⟩ : ∃ w9, w8.setCell ⟨b, 1, none⟩ (.bool (!E)) = w9 := ⟨_, rfl⟩
          have hR := HFIN.out (!E) rfl
          rw [hw9] at hR
          have HR := Hid.of hR
          clear hR
          go_wp2
          go_end0
          exact HQ.out _ HR.out
        · obtain ⟨w9, hw9⟩ : ∃ w9, w8.setCell ⟨b, 1, none⟩ (.bool true) = w9 := ⟨_, rfl⟩
          have hR := HFIN.out true rfl
          rw [hw9] at hR
          have HR := Hid.of hR
          clear hR
          go_wp2
          go_end0
          exact HQ.out _ HR.out
      · have HBAD : Hid ((((nb2 || !in16 n) || !in16 m) || !stEq 0 0 0 0 0 d 0 0 0 0 0 0 [] 0) = (bad || !ok ⟨9, t, n, m, hd, d, bk⟩)) := by
          refine Hid.of ?_
          rw [← HNB2.out, ← HNB.out]
          exact bad_law bad 9 t n m hd d bk true true false false rfl rfl rfl rfl rfl rfl rfl
        have HOUT : Hid (ok ⟨9, t, n, m, hd, d, bk⟩ = true → (o1 ++ le16 n ++ le16 m) = out ++ pb ⟨9, t, n, m, hd, d, bk⟩) := Hid.of (fun _ => by rw [← HO1.out, List.append_assoc]; exact out_law out 9 t n m hd d bk true true false false rfl rfl rfl rfl)
        have HLEN : Hid ((o1 ++ le16 n ++ le16 m).length ≤ out.length + d.length + 20) := Hid.of (by
          rw [← HO1.out]
          have hbl9 := hb_len ⟨9, t, n, m, hd, d, bk⟩
          simp only [le16, List.length_append, List.length_cons, List.length_nil]
          omega)
        go_wp2_with fail
        refine (pnum_any _ b xb 2 v5 o1 nb2 n _ _ P5.p P5.x rfl HX.out.2.1 (P5.vx HX.out.2.2) (by omega) hn1 hn2).mono ?_
        rintro e w6 ⟨rfl, v6, p6, x6, at6, k6⟩
        have P6 : Pen w b xb (.slice A out.length cap) w6 v6 (o1 ++ le16 n) (nb2 || !in16 n) ⟨9, t, 0, m, 0, d, 0⟩ := P5.call HX.out.1 p6 (by exact x6) at6 k6
        clear p6 x6 at6 k6 P5
        have hl6 : (o1 ++ le16 n).length ≤ 10000100 := by simp [le16]; omega
        go_wp2_with fail
        refine (pnum_any _ b xb 3 v6 (o1 ++ le16 n) (nb2 || !in16 n) m _ _ P6.p P6.x rfl HX.out.2.1 (P6.vx HX.out.2.2) (by omega) hm1 hm2).mono ?_
        rintro e w7 ⟨rfl, v7, p7, x7, at7, k7⟩
        have P7 : Pen w b xb (.slice A out.length cap) w7 v7 (o1 ++ le16 n ++ le16 m) ((nb2 || !in16 n) || !in16 m) ⟨9, t, 0, 0, 0, d, 0⟩ := P6.call HX.out.1 p7 (by exact x7) at7 k7
        clear p7 x7 at7 k7 P6
        obtain ⟨nbq, hnbq⟩ : ∃ q, ((nb2 || !in16 n) || !in16 m) = q := ⟨_, rfl⟩
        have HNQ := Hid.of hnbq
        rw [hnbq] at P7
        clear hnbq
        obtain ⟨g0, g1, g2, g3, g4, g5, g6⟩ := P7.x.free
        obtain ⟨i0, i1, i2, i3, i4, i5, i6⟩ := P7.x.all
        simp only [] at i0 i1 i2 i3 i4 i5 i6
        have k8 := (kset w7 xb 0 (.int .i64 0)).trans (kset _ xb 1 (.int .i64 0))
        have P8 : Pen w b xb (.slice A out.length cap) ((w7.setCell ⟨xb, 0, none⟩ (.int .i64 0)).setCell ⟨xb, 1, none⟩ (.int .i64 0)) v7 (o1 ++ le16 n ++ le16 m) nbq ⟨0, 0, 0, 0, 0, d, 0⟩ := P7.xset HX.out.1 HX.out.2.1 HX.out.2.2 ((P7.x.set_kind 0).set_tenant 0) k8
        obtain ⟨w8, hw8⟩ : ∃ w8, (w7.setCell ⟨xb, 0, none⟩ (.int .i64 0)).setCell ⟨xb, 1, none⟩ (.int .i64 0) = w8 := ⟨_, rfl⟩
        rw [hw8] at P8
        clear k8 P7
        obtain ⟨j0, j1, j2, j3, j4, j5, j6⟩ := P8.x.all
        simp only [] at j0 j1 j2 j3 j4 j5 j6
        have z1 := cell_of (v := .bool nbq) P8.p.1 1 rfl
        have y1 := free_of P8.p.1 1
        have nq : ∀ w, (binOp .neq 108 (.agg #[.int .i64 0, .int .i64 0, .int .i64 0, .int .i64 0, .int .u64 0, .string (bs d), .int .i64 0]) (.agg #[.int .i64 0, .int .i64 0, .int .i64 0, .int .i64 0, .int .u64 0, .string ⟨#[]⟩, .int .i64 0])).run Try.prog w = .ok (.bool (!stEq 0 0 0 0 0 d 0 0 0 0 0 0 [] 0)) w := fun w => neq_stp w 0 0 0 0 0 0 0 0 0 0 0 0 d []
        obtain ⟨E, hE⟩ : ∃ E, stEq 0 0 0 0 0 d 0 0 0 0 0 0 [] 0 = E := ⟨_, rfl⟩
        have HE := Hid.of hE
        rw [hE] at nq
        clear hE
        have hfin : ∀ q, q = (nbq || !E) → PRes w b (.slice A out.length cap) out bad ⟨9, t, n, m, hd, d, bk⟩ (w8.setCell ⟨b, 1, none⟩ (.bool q)) := by
          intro q hq
          refine HRES.out _ _ _ _ _ (P8.bset q HX.out.1 HX.out.2.1) ?_ ?_ ?_
          · rw [hq, ← HNQ.out, ← HE.out]
            exact HBAD.out
          · exact HOUT.out
          · exact HLEN.out
        have HFIN := Hid.of hfin
        clear hfin P8
        cases nbq
        · obtain ⟨w9, hw9⟩ : ∃ w9, w8.setCell ⟨b, 1, none⟩ (.bool (!E)) = w9 := ⟨_, rfl⟩
          have hR := HFIN.out (!E) rfl
          rw [hw9] at hR
          have HR := Hid.of hR
          clear hR
          go_wp2
          go_end0
          exact HQ.out _ HR.out
        · obtain ⟨w9, hw9⟩ : ∃ w9, w8.setCell ⟨b, 1, none⟩ (.bool true) = w9 := ⟨_, rfl⟩
          have hR := HFIN.out true rfl
          rw [hw9] at hR
          have HR := Hid.of hR
          clear hR
          go_wp2
          go_end0
          exact HQ.out _ HR.out
      · go_wp2_with fail
        refine (pnum_any _ b xb 2 v5 o1 nb2 n _ _ P5.p P5.x rfl HX.out.2.1 (P5.vx HX.out.2.2) (by omega) hn1 hn2).mono ?_
        rintro e w6 ⟨rfl, v6, p6, x6, at6, k6⟩
        have P6 : Pen w b xb (.slice A out.length cap) w6 v6 (o1 ++ le16 n) (nb2 || !in16 n) ⟨10, t, 0, m, 0, d, 0⟩ := P5.call HX.out.1 p6 (by exact x6) at6 k6
        clear p6 x6 at6 k6 P5
        obtain ⟨nb3, hnb3⟩ : ∃ nb3, (nb2 || !in16 n) = nb3 := ⟨_, rfl⟩
        have HN3 := Hid.of hnb3
        rw [hnb3] at P6
        clear hnb3
        obtain ⟨nb4, hnb4⟩ : ∃ nb4, (nb3 || !decide (d.length ≤ 255)) = nb4 := ⟨_, rfl⟩
        have HN4 := Hid.of hnb4
        clear hnb4
        obtain ⟨a0, a1, a2, a3, a4, a5, a6⟩ := P6.x.all
        simp only [] at a0 a1 a2 a3 a4 a5 a6
        have c1 := cell_of (v := .bool nb3) P6.p.1 1 rfl
        have f1 := free_of P6.p.1 1
        have P7 := P6.bset nb4 HX.out.1 HX.out.2.1
        obtain ⟨w7, hw7⟩ : ∃ w7, w6.setCell ⟨b, 1, none⟩ (.bool nb4) = w7 := ⟨_, rfl⟩
        rw [hw7] at P7
        have HP7 := Hid.of P7
        have HW7 := Hid.of hw7
        clear P6 P7 hw7
        go_upto_region 20 with fail
        go_cut [96] (fun s wx => wx = w7)
        case first =>
          have hcs : nb3 = true ∨ (nb3 = false ∧ 255 < d.length) ∨ (nb3 = false ∧ d.length ≤ 255) := by cases nb3 <;> simp <;> omega
          rcases hcs with rfl | ⟨rfl, g1⟩ | ⟨rfl, g1⟩
          · obtain rfl : nb4 = true := by rw [← HN4.out]; rfl
            have hw7 := HW7.out
            go_wp2_with fail
            go_meet
            first | rfl | exact ⟨rfl, rfl⟩
          · obtain rfl : nb4 = true := by rw [← HN4.out]; simp; omega
            have g2 : decide ((255 : Int) < (d.length : Int)) = true := by simp; omega
            have hw7 := HW7.out
            go_wp2_with fail
            go_meet
            first | rfl | exact ⟨rfl, rfl⟩
          · obtain rfl : nb4 = false := by rw [← HN4.out]; simp; omega
            have g2 : decide ((255 : Int) < (d.length : Int)) = false := by simp; omega
            have hw7 := HW7.out
            go_wp2_with fail
            go_meet
            first | rfl | exact ⟨rfl, rfl⟩
        case rest =>
          first | rw [hcut] | rw [hcut.2]
          clear hcut a0 a1 a2 a3 a4 a5 a6 c1 f1 HW7
          obtain ⟨a0, a1, a2, a3, a4, a5, a6⟩ := HP7.out.x.all
          simp only [] at a0 a1 a2 a3 a4 a5 a6
          obtain ⟨o3, ho3⟩ : ∃ o3, o1 ++ le16 n = o3 := ⟨_, rfl⟩
          have HO3 := Hid.of ho3
          have hl3 : o3.length ≤ 10000100 := by rw [← ho3]; simp [le16]; omega
          rw [ho3] at HP7
          clear ho3
          obtain ⟨A6, cp6, hv6, -, -, -⟩ := HP7.out.p.2.1.shape
          subst hv6
          have c0 := cell_of (v := .slice A6 o3.length cp6) HP7.out.p.1 0 rfl
          have lb7 : b < w7.heap.size := lt_of HP7.out.p.1
          have lx7 : xb < w7.heap.size := lt_of HP7.out.x
          have wl : IntKind.u8.wrap (d.length : Int) = (d.length : Int) % 256 := IntKind.wrap_u8 _
          have HPo : Hid (Own w7 5 1 (.slice A6 o3.length cp6) o3.length (u8s o3)) := Hid.of HP7.out.p.2.1
          have HPP : Hid (PAt w7 b (.slice A6 o3.length cp6) o3 nb4) := Hid.of HP7.out.p
          have hvx6 := HP7.out.vx HX.out.2.2
          have HVX := Hid.of hvx6
          clear hvx6
          go_wp2
          go_cut [111] (fun s wx => ∃ v8, Pen w b xb (.slice A out.length cap) wx v8 (o3 ++ [b8 (d.length : Int)]) nb4 ⟨10, t, 0, m, 0, d, 0⟩)
          case first =>
            go_region_law (refine step_appM slBytes w7.drew rfl _ _ rfl (.slice A6 o3.length cp6) o3.length 1 (u8s o3) rfl HPo.out [.int .u8 ((d.length : Int) % 256)] rfl rfl (by simp [Value.oneCell']) (by unfold maxLen; omega) (by omega) ?_; intro v8 w8 o8 k8 at8; obtain ⟨A8, c8, rfl, cc8, ff8, P8, at9, K8⟩ := pen_app (m := 1) (news := [b8 (d.length : Int)]) (w1 := w7.drew) HPP.out rfl (by rw [b8_cells]; exact o8) k8 at8; have HF := Hid.of (And.intro P8 (And.intro at9 K8)); clear o8 k8 at8 P8 K8 at9)
            all_goals
              go_wp2_with fail
              go_meet
              exact ⟨_, HP7.out.call HX.out.1 HF.out.1 (XAt.keep (w := w7) HP7.out.x (HF.out.2.2.of_drew) (fun e => by rcases e with e | e; { exact HX.out.2.1 e.symm }; { exact HVX.out e })) HF.out.2.1 ((HF.out.2.2.of_drew).mono (fun _ _ e => by rcases e with e | e; { exact .inl e }; { exact .inr (.inl e) }))⟩
          case rest =>
            obtain ⟨v8, P8⟩ := hcut
            clear a0 a1 a2 a3 a4 a5 a6 c0 lb7 lx7 wl HPo HPP HP7 HVX
            obtain ⟨a0, a1, a2, a3, a4, a5, a6⟩ := P8.x.all
            simp only [] at a0 a1 a2 a3 a4 a5 a6
            obtain ⟨o4, ho4⟩ : ∃ o4, o3 ++ [b8 (d.length : Int)] = o4 := ⟨_, rfl⟩
            have HO4 := Hid.of ho4
            have hl4 : o4.length ≤ 10000200 := by rw [← ho4]; simp; omega
            rw [ho4] at P8
            clear ho4
            obtain ⟨A8, cp8, hv8, -, -, -⟩ := P8.p.2.1.shape
            subst hv8
            have HP8 := Hid.of P8
            clear P8
            have c0 := cell_of (v := .slice A8 o4.length cp8) HP8.out.p.1 0 rfl
            have lb8 : b < wc.heap.size := lt_of HP8.out.p.1
            have lx8 : xb < wc.heap.size := lt_of HP8.out.x
            have HPo : Hid (Own wc 5 1 (.slice A8 o4.length cp8) o4.length (u8s o4)) := Hid.of HP8.out.p.2.1
            have HVX := Hid.of (HP8.out.vx HX.out.2.2)
            go_wp2
            go_cut [126] (fun s wx => ∃ v9, Pen w b xb (.slice A out.length cap) wx v9 (o4 ++ d) nb4 ⟨10, t, 0, m, 0, d, 0⟩)
            case first =>
              go_region_law (refine step_appS slBytes Try.underlying9 wc.drew rfl _ _ rfl (.slice A8 o4.length cp8) o4.length (u8s o4) rfl HPo.out d rfl (by omega) ?_; intro v9 w9 o9 k9 at9; obtain ⟨A9, c9, rfl, cc9, ff9, P9, at10, K9⟩ := pen_app2 (m := d.length) (news := d) (w1 := wc.drew) HP8.out.p rfl o9 k9 at9; have HF := Hid.of (And.intro P9 (And.intro at10 K9)); clear o9 k9 at9 P9 K9 at10)
              all_goals
                go_wp2_with fail
                go_meet
                exact ⟨_, HP8.out.call HX.out.1 HF.out.1 (XAt.keep (w := wc) HP8.out.x (HF.out.2.2.of_drew) (fun e => by rcases e with e | e; { exact HX.out.2.1 e.symm }; { exact HVX.out e })) HF.out.2.1 ((HF.out.2.2.of_drew).mono (fun _ _ e => by rcases e with e | e; { exact .inl e }; { exact .inr (.inl e) }))⟩
            case rest =>
              obtain ⟨v9, P9⟩ := hcut
              clear a0 a1 a2 a3 a4 a5 a6 c0 lb8 lx8 HPo HVX HP8
              obtain ⟨l0, l1, l2, l3, l4, l5, l6⟩ := P9.x.free
              obtain ⟨r0, r1, r2, r3, r4, r5, r6⟩ := P9.x.all
              simp only [] at r0 r1 r2 r3 r4 r5 r6
              have P10 : Pen w b xb (.slice A out.length cap) (wc.setCell ⟨xb, 5, none⟩ (.string ⟨#[]⟩)) v9 (o4 ++ d) nb4 ⟨10, t, 0, m, 0, [], 0⟩ := P9.xset HX.out.1 HX.out.2.1 HX.out.2.2 (P9.x.set_data []) (kset wc xb 5 _)
              obtain ⟨w10, hw10⟩ : ∃ w10, wc.setCell ⟨xb, 5, none⟩ (.string ⟨#[]⟩) = w10 := ⟨_, rfl⟩
              rw [hw10] at P10
              clear P9
              have HBAD : Hid ((nb4 || !stEq 0 0 0 m 0 [] 0 0 0 0 0 0 [] 0) = (bad || !ok ⟨10, t, n, m, hd, d, bk⟩)) := by
                refine Hid.of ?_
                rw [← HN4.out, ← HN3.out, ← HNB2.out, ← HNB.out]
                exact bad_law bad 10 t n m hd d bk true false false true rfl rfl rfl rfl rfl rfl rfl
              have HOUT : Hid (ok ⟨10, t, n, m, hd, d, bk⟩ = true → (o4 ++ d) = out ++ pb ⟨10, t, n, m, hd, d, bk⟩) := Hid.of (fun _ => by rw [← HO4.out, ← HO3.out, ← HO1.out]; have h := out_law out 10 t n m hd d bk true false false true rfl rfl rfl rfl; simpa [List.append_assoc] using h)
              have HLEN : Hid ((o4 ++ d).length ≤ out.length + d.length + 20) := Hid.of (by
                rw [← HO4.out, ← HO3.out, ← HO1.out]
                have hbl9 := hb_len ⟨10, t, n, m, hd, d, bk⟩
                simp only [le16, List.length_append, List.length_cons, List.length_nil]
                omega)
              obtain ⟨nbq, hnbq⟩ : ∃ q, nb4 = q := ⟨_, rfl⟩
              have HNQ := Hid.of hnbq
              rw [hnbq] at P10
              clear hnbq
              obtain ⟨g0, g1, g2, g3, g4, g5, g6⟩ := P10.x.free
              obtain ⟨i0, i1, i2, i3, i4, i5, i6⟩ := P10.x.all
              simp only [] at i0 i1 i2 i3 i4 i5 i6
              have k8 := (kset w10 xb 0 (.int .i64 0)).trans (kset _ xb 1 (.int .i64 0))
              have P8 : Pen w b xb (.slice A out.length cap) ((w10.setCell ⟨xb, 0, none⟩ (.int .i64 0)).setCell ⟨xb, 1, none⟩ (.int .i64 0)) v9 (o4 ++ d) nbq ⟨0, 0, 0, m, 0, [], 0⟩ := P10.xset HX.out.1 HX.out.2.1 HX.out.2.2 ((P10.x.set_kind 0).set_tenant 0) k8
              obtain ⟨w8, hw8⟩ : ∃ w8, (w10.setCell ⟨xb, 0, none⟩ (.int .i64 0)).setCell ⟨xb, 1, none⟩ (.int .i64 0) = w8 := ⟨_, rfl⟩
              rw [hw8] at P8
              clear k8 P10
              obtain ⟨j0, j1, j2, j3, j4, j5, j6⟩ := P8.x.all
              simp only [] at j0 j1 j2 j3 j4 j5 j6
              have z1 := cell_of (v := .bool nbq) P8.p.1 1 rfl
              have y1 := free_of P8.p.1 1
              have nq : ∀ w, (binOp .neq 108 (.agg #[.int .i64 0, .int .i64 0, .int .i64 0, .int .i64 m, .int .u64 0, .string (bs []), .int .i64 0]) (.agg #[.int .i64 0, .int .i64 0, .int .i64 0, .int .i64 0, .int .u64 0, .string ⟨#[]⟩, .int .i64 0])).run Try.prog w = .ok (.bool (!stEq 0 0 0 m 0 [] 0 0 0 0 0 0 [] 0)) w := fun w => neq_stp w 0 0 0 m 0 0 0 0 0 0 0 0 [] []
              obtain ⟨E, hE⟩ : ∃ E, stEq 0 0 0 m 0 [] 0 0 0 0 0 0 [] 0 = E := ⟨_, rfl⟩
              have HE := Hid.of hE
              rw [hE] at nq
              clear hE
              have hfin : ∀ q, q = (nbq || !E) → PRes w b (.slice A out.length cap) out bad ⟨10, t, n, m, hd, d, bk⟩ (w8.setCell ⟨b, 1, none⟩ (.bool q)) := by
                intro q hq
                refine HRES.out _ _ _ _ _ (P8.bset q HX.out.1 HX.out.2.1) ?_ ?_ ?_
                · rw [hq, ← HNQ.out, ← HE.out]
                  exact HBAD.out
                · exact HOUT.out
                · exact HLEN.out
              have HFIN := Hid.of hfin
              clear hfin P8
              cases nbq
              · obtain ⟨w9, hw9⟩ : ∃ w9, w8.setCell ⟨b, 1, none⟩ (.bool (!E)) = w9 := ⟨_, rfl⟩
                have hR := HFIN.out (!E) rfl
                rw [hw9] at hR
                have HR := Hid.of hR
                clear hR
                go_wp2
                go_end0
                exact HQ.out _ HR.out
              · obtain ⟨w9, hw9⟩ : ∃ w9, w8.setCell ⟨b, 1, none⟩ (.bool true) = w9 := ⟨_, rfl⟩
                have hR := HFIN.out true rfl
                rw [hw9] at hR
                have HR := Hid.of hR
                clear hR
                go_wp2
                go_end0
                exact HQ.out _ HR.out
      · have HBAD : Hid (((nb2 || !in16 n) || !stEq 0 0 0 m 0 d 0 0 0 0 0 0 [] 0) = (bad || !ok ⟨11, t, n, m, hd, d, bk⟩)) := by
          refine Hid.of ?_
          rw [← HNB2.out, ← HNB.out]
          exact bad_law bad 11 t n m hd d bk true false true false rfl rfl rfl rfl rfl rfl rfl
        have HOUT : Hid (ok ⟨11, t, n, m, hd, d, bk⟩ = true → (o1 ++ le16 n) = out ++ pb ⟨11, t, n, m, hd, d, bk⟩) := Hid.of (fun _ => by rw [← HO1.out]; exact out_law out 11 t n m hd d bk true false true false rfl rfl rfl rfl)
        have HLEN : Hid ((o1 ++ le16 n).length ≤ out.length + d.length + 20) := Hid.of (by
          rw [← HO1.out]
          have hbl9 := hb_len ⟨11, t, n, m, hd, d, bk⟩
          simp only [le16, List.length_append, List.length_cons, List.length_nil]
          omega)
        go_wp2_with fail
        refine (pnum_any _ b xb 2 v5 o1 nb2 n _ _ P5.p P5.x rfl HX.out.2.1 (P5.vx HX.out.2.2) (by omega) hn1 hn2).mono ?_
        rintro e w6 ⟨rfl, v6, p6, x6, at6, k6⟩
        have P6 : Pen w b xb (.slice A out.length cap) w6 v6 (o1 ++ le16 n) (nb2 || !in16 n) ⟨11, t, 0, m, 0, d, 0⟩ := P5.call HX.out.1 p6 (by exact x6) at6 k6
        clear p6 x6 at6 k6 P5
        obtain ⟨nbq, hnbq⟩ : ∃ q, (nb2 || !in16 n) = q := ⟨_, rfl⟩
        have HNQ := Hid.of hnbq
        rw [hnbq] at P6
        clear hnbq
        obtain ⟨g0, g1, g2, g3, g4, g5, g6⟩ := P6.x.free
        obtain ⟨i0, i1, i2, i3, i4, i5, i6⟩ := P6.x.all
        simp only [] at i0 i1 i2 i3 i4 i5 i6
        have k8 := (kset w6 xb 0 (.int .i64 0)).trans (kset _ xb 1 (.int .i64 0))
        have P8 : Pen w b xb (.slice A out.length cap) ((w6.setCell ⟨xb, 0, none⟩ (.int .i64 0)).setCell ⟨xb, 1, none⟩ (.int .i64 0)) v6 (o1 ++ le16 n) nbq ⟨0, 0, 0, m, 0, d, 0⟩ := P6.xset HX.out.1 HX.out.2.1 HX.out.2.2 ((P6.x.set_kind 0).set_tenant 0) k8
        obtain ⟨w8, hw8⟩ : ∃ w8, (w6.setCell ⟨xb, 0, none⟩ (.int .i64 0)).setCell ⟨xb, 1, none⟩ (.int .i64 0) = w8 := ⟨_, rfl⟩
        rw [hw8] at P8
        clear k8 P6
        obtain ⟨j0, j1, j2, j3, j4, j5, j6⟩ := P8.x.all
        simp only [] at j0 j1 j2 j3 j4 j5 j6
        have z1 := cell_of (v := .bool nbq) P8.p.1 1 rfl
        have y1 := free_of P8.p.1 1
        have nq : ∀ w, (binOp .neq 108 (.agg #[.int .i64 0, .int .i64 0, .int .i64 0, .int .i64 m, .int .u64 0, .string (bs d), .int .i64 0]) (.agg #[.int .i64 0, .int .i64 0, .int .i64 0, .int .i64 0, .int .u64 0, .string ⟨#[]⟩, .int .i64 0])).run Try.prog w = .ok (.bool (!stEq 0 0 0 m 0 d 0 0 0 0 0 0 [] 0)) w := fun w => neq_stp w 0 0 0 m 0 0 0 0 0 0 0 0 d []
        obtain ⟨E, hE⟩ : ∃ E, stEq 0 0 0 m 0 d 0 0 0 0 0 0 [] 0 = E := ⟨_, rfl⟩
        have HE := Hid.of hE
        rw [hE] at nq
        clear hE
        have hfin : ∀ q, q = (nbq || !E) → PRes w b (.slice A out.length cap) out bad ⟨11, t, n, m, hd, d, bk⟩ (w8.setCell ⟨b, 1, none⟩ (.bool q)) := by
          intro q hq
          refine HRES.out _ _ _ _ _ (P8.bset q HX.out.1 HX.out.2.1) ?_ ?_ ?_
          · rw [hq, ← HNQ.out, ← HE.out]
            exact HBAD.out
          · exact HOUT.out
          · exact HLEN.out
        have HFIN := Hid.of hfin
        clear hfin P8
        cases nbq
        · obtain ⟨w9, hw9⟩ : ∃ w9, w8.setCell ⟨b, 1, none⟩ (.bool (!E)) = w9 := ⟨_, rfl⟩
          have hR := HFIN.out (!E) rfl
          rw [hw9] at hR
          have HR := Hid.of hR
          clear hR
          go_wp2
          go_end0
          exact HQ.out _ HR.out
        · obtain ⟨w9, hw9⟩ : ∃ w9, w8.setCell ⟨b, 1, none⟩ (.bool true) = w9 := ⟨_, rfl⟩
          have hR := HFIN.out true rfl
          rw [hw9] at hR
          have HR := Hid.of hR
          clear hR
          go_wp2
          go_end0
          exact HQ.out _ HR.out
end Scr
end Go.Proofs.Ytmlolkjgniodpaa
