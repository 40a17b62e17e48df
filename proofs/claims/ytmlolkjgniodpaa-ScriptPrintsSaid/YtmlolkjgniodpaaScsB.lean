/- The document's script (garthref22): bytes, the walk. -/
import Derived.Test.YtmlolkjgniodpaaScsA
import Derived.Test.YtmlolkjgniodpaaScrF
set_option linter.unusedVariables false
set_option linter.unusedSimpArgs false
namespace Go.Proofs.Ytmlolkjgniodpaa
open Go.RowKit Go.ChangeMaps
attribute [-go_sem] run_index_string run_neq_struct run_eql_struct run_equalIn_agg
namespace Scr
def OAt (w : World) (b : Nat) (s : Stp) : Prop := w.heap[b]? = some (.cells #[.int .i64 s.kind, .int .i64 s.tenant, .int .i64 s.n, .int .i64 s.m, .int .u64 s.handle, .string (bs s.data)] 30 (0, 0))
theorem OAt.all {w : World} {b : Nat} {s : Stp} (h : OAt w b s) : w.cell? ⟨b, 0, none⟩ = some (.int .i64 s.kind) ∧ w.cell? ⟨b, 1, none⟩ = some (.int .i64 s.tenant) ∧ w.cell? ⟨b, 2, none⟩ = some (.int .i64 s.n) ∧ w.cell? ⟨b, 3, none⟩ = some (.int .i64 s.m) ∧
    w.cell? ⟨b, 4, none⟩ = some (.int .u64 s.handle) ∧ w.cell? ⟨b, 5, none⟩ = some (.string (bs s.data)) :=
  ⟨cell_of h 0 rfl, cell_of h 1 rfl, cell_of h 2 rfl, cell_of h 3 rfl, cell_of h 4 rfl, cell_of h 5 rfl⟩
/-- The bytes that are being written: an own row, behind what must stay. -/
structure Wr (w0 : World) (xb ob : Nat) (x : Stp) (w : World) (v : Value) (cur : Bs) : Prop where
  o : Own w 5 1 v cur.length (u8s cur)
  f : ∀ g, v.ownBlock = some g → ob < g
  xa : XAt w xb x
  q : OAt w ob x
  k : Keeps (fun _ => False) w0 w
theorem Wr.app {w0 : World} {xb ob : Nat} {x : Stp} {w w' : World} {v v' : Value} {cur news : Bs} (h : Wr w0 xb ob x w v cur) (hx : w0.heap.size ≤ xb) (hlt : xb < ob) {m : Nat} (hm : news.length = m) (o : Own w' 5 1 v' (cur.length + m) (u8s cur ++ u8s news)) (k : Keeps (fun b => v.ownBlock = some b) w w')
    (at' : v'.ownBlock = v.ownBlock ∨ v'.ownBlock = some (w.heap.size + 1) ∨ v'.ownBlock = some w.heap.size) : ∃ A c, v' = .slice A (cur.length + m) c ∧ Wr w0 xb ob x w' v' (cur ++ news) := by
  obtain ⟨A, c, hv, -, -, -⟩ := o.shape
  have hol := lt_of h.q
  refine ⟨A, c, hv, ⟨?_, ?_, h.xa.keep k (fun e => by have := h.f _ e; omega), k.at h.q (fun e => by have := h.f _ e; omega), h.k.trans' k (fun x hx hl => by have := h.f _ hx; omega)⟩⟩
  · rw [List.length_append, hm, u8s_append]; exact o
  · intro g hg
    rcases at' with e | e | e
    · exact h.f g (by rw [← e]; exact hg)
    · rw [e] at hg; cases hg; omega
    · rw [e] at hg; cases hg; omega
theorem Wr.ctx {w0 : World} {xb ob : Nat} {x : Stp} {w : World} {v : Value} {cur : Bs} (h : Wr w0 xb ob x w v cur) : ∃ A c, v = .slice A cur.length c := by
  obtain ⟨A, c, hv, -⟩ := h.o.shape
  exact ⟨A, c, hv⟩
set_option maxRecDepth 100000 in
set_option maxHeartbeats 1500000 in
theorem rbytes_any (w : World) (x : Stp) (hk1 : 0 ≤ x.kind) (hk2 : x.kind ≤ 15) (hs : small x = true) (hu : u64 x) (hdl : x.data.length ≤ 1000000) :
    Calls Try.prog 67 #[.agg #[.int .i64 x.kind, .int .i64 x.tenant, .int .i64 x.n, .int .i64 x.m, .int .u64 x.handle, .string (bs x.data), .int .i64 x.back]] w fun e w' => ∃ v, e = .returned v ∧ OutR 5 1 w.heap.size w' v (rb x).length (u8s (rb x)) ∧ Keeps (fun _ => False) w w' := by
  obtain ⟨k, t, n, m, hd, d, bk⟩ := x
  simp only [] at hk1 hk2 hdl
  have hsn : -32768 ≤ n ∧ n ≤ 32767 ∧ -32768 ≤ m ∧ m ≤ 32767 := by
    unfold small in16 at hs; simp at hs; omega
  obtain ⟨hn1, hn2, hm1, hm2⟩ := hsn
  obtain ⟨hu0, hu1⟩ := hu
  simp only [] at hu0 hu1
  obtain ⟨w1, hw1⟩ : ∃ w1, w.alloc (.cells #[.int .i64 k, .int .i64 t, .int .i64 n, .int .i64 m, .int .u64 hd, .string (bs d), .int .i64 bk] 108) = w1 := ⟨_, rfl⟩
  have x1 : XAt w1 w.heap.size ⟨k, t, n, m, hd, d, bk⟩ := by rw [← hw1]; exact alloc_new _ _
  have K1 : Keeps (fun _ => False) w w1 := by rw [← hw1]; exact (Keeps.refl _ _).alloc _
  obtain ⟨w2, hw2⟩ : ∃ w2, w1.alloc (.cells #[.int .i64 k, .int .i64 t, .int .i64 n, .int .i64 m, .int .u64 hd, .string (bs d)] 30) = w2 := ⟨_, rfl⟩
  have q2 : OAt w2 w1.heap.size ⟨k, t, n, m, hd, d, bk⟩ := by rw [← hw2]; exact alloc_new _ _
  have K2 : Keeps (fun _ => False) w1 w2 := by rw [← hw2]; exact (Keeps.refl _ _).alloc _
  obtain ⟨w3, hw3⟩ : ∃ w3, w2.alloc (.cells #[.int .u8 (k % 256), .int .u8 (t % 256)] 5) = w3 := ⟨_, rfl⟩
  have K3 : Keeps (fun _ => False) w2 w3 := by rw [← hw3]; exact (Keeps.refl _ _).alloc _
  have l1 : w.heap.size < w1.heap.size := lt_of x1
  have l2 : w1.heap.size < w2.heap.size := lt_of q2
  have W3 : Wr w w.heap.size w1.heap.size ⟨k, t, n, m, hd, d, bk⟩ w3 (.slice (some ⟨w2.heap.size, 0, none⟩) 2 2) [b8 k, b8 t] := by
    refine ⟨?_, fun g hg => by cases hg; omega, (x1.keep K2 (fun e => e)).keep K3 (fun e => e), K3.at q2 (fun e => e), (K1.trans K2).trans K3⟩
    rw [← hw3]
    have e : u8s [b8 k, b8 t] = [.int .u8 (k % 256), .int .u8 (t % 256)] := by
      unfold u8s
      simp only [List.map_cons, List.map_nil, b8_toNat]
    rw [e]
    exact ⟨rfl, .inr ⟨w2.heap.size, 2, _, rfl, Nat.zero_le _, alloc_new _ _, Nat.le_refl _, by unfold maxLen; omega, rfl, rfl⟩⟩
  obtain ⟨a0, a1, a2, a3, a4, a5, a6⟩ := x1.all
  obtain ⟨b0, b1, b2, b3, b4, b5⟩ := q2.all
  obtain ⟨c0, c1, c2, c3, c4, c5⟩ := W3.q.all
  simp only [] at a0 a1 a2 a3 a4 a5 a6 b0 b1 b2 b3 b4 b5 c0 c1 c2 c3 c4 c5
  have wk : IntKind.u8.wrap k = k % 256 := IntKind.wrap_u8 _
  have wt : IntKind.u8.wrap t = t % 256 := IntKind.wrap_u8 _
  have qr := fun w => row_any w k hk1 (by omega)
  obtain ⟨R, hRe⟩ : ∃ R, row k = R := ⟨_, rfl⟩
  have HRB : Hid (rb ⟨k, t, n, m, hd, d, bk⟩ = [b8 k, b8 t] ++ R.flatMap (wr ⟨k, t, n, m, hd, d, bk⟩)) := Hid.of (by rw [← hRe]; rfl)
  rw [hRe] at qr
  have hRL : (R.map pc).length = R.length := by simp
  have hRC : ∀ j p, R[j]? = some p → byteAt (R.map pc) j = pci p := by
    intro j p hj
    unfold byteAt
    simp only [List.getD_eq_getElem?_getD, List.getElem?_map, hj]
    cases p <;> rfl
  have hRb : R.length ≤ 3 := by rw [← hRe]; exact row_len k
  have HRC := Hid.of hRC
  generalize R.map pc = RB at *
  dsimp only
  generalize hX : (⟨k, t, n, m, hd, d, bk⟩ : Stp) = X at *
  have HX := Hid.of hX
  clear hRC hRe hX x1 q2 K1 K2 K3 hs
  go_enter Try.func67, Try.ntmps67
  go_wp2_with fail
  refine (qr _).mono ?_
  rintro e w4 ⟨rfl, rfl⟩
  obtain ⟨xb, hxe⟩ : ∃ xb, w.heap.size = xb := ⟨_, rfl⟩
  obtain ⟨ob, hoe⟩ : ∃ ob, w1.heap.size = ob := ⟨_, rfl⟩
  rw [hxe] at W3 l1
  rw [hoe] at W3 l1 l2
  try rw [hxe]
  try rw [hoe]
  have HB := Hid.of (And.intro (Nat.le_of_eq hxe) l1)
  clear qr hw1 hw2 hw3 a0 a1 a2 a3 a4 a5 a6 b0 b1 b2 b3 b4 b5 c0 c1 c2 c3 c4 c5 wk wt hxe hoe
  go_wp2
  go_loopw [4, 6] (fun v i wz => ∃ (j : Nat) (cur : Bs), j ≤ R.length ∧ i = .int .i64 j ∧ Wr w xb ob X wz v cur ∧ cur.length ≤ 2 + j * 1000300 ∧ Hid (cur = [b8 k, b8 t] ++ (R.take j).flatMap (wr X))) (fun _ i _ => R.length - (intOf i).toNat)
  case atStart => exact ⟨0, _, Nat.zero_le _, rfl, W3, by simp, Hid.of (by simp)⟩
  case round =>
    clear W3 l1 l2
    obtain ⟨j, cur, hj, rfl, W, hcl, HC⟩ := hrel
    obtain ⟨A, cp, rfl⟩ := W.ctx
    obtain ⟨c0, c1, c2, c3, c4, c5⟩ := W.q.all
    obtain ⟨a0, a1, a2, a3, a4, a5, a6⟩ := W.xa.all
    rw [← HX.out] at c0 c1 c2 c3 c4 c5 a6
    simp only [] at c0 c1 c2 c3 c4 c5 a6
    have lo : ob < wr.heap.size := lt_of W.q
    have lx : xb < wr.heap.size := lt_of W.xa
    clear a0 a1 a2 a3 a4 a5
    by_cases hlt : j < R.length
    · obtain ⟨p, hp⟩ : ∃ p, R[j]? = some p := ⟨_, List.getElem?_eq_getElem hlt⟩
      have hbp := HRC.out j p hp
      have hlti : (j : Int) < (RB.length : Int) := by omega
      have HT : Hid (R.take (j + 1) = R.take j ++ [p]) := Hid.of (by rw [List.take_add_one, hp]; rfl)
      have hcb : cur.length ≤ 5000000 := by omega
      clear hp
      cases p with
      | n =>
        have hbp : byteAt RB j = 110 := hbp
        obtain ⟨q1, q3, q4, e1, g1, g2, e3, g3, g4, e4, g5, g6, e5, e6⟩ := two_bytes n hn1 hn2
        have e3' : (n - q1 % 256).tdiv 256 = q3 := by rw [← e3]; congr 1; omega
        have HN : Hid ((cur ++ le16 n) = [b8 k, b8 t] ++ (R.take (j + 1)).flatMap (Scr.wr X)) := Hid.of (by rw [HC.out, HT.out, List.flatMap_append, ← HX.out]; simp [Scr.wr])
        have HW := Hid.of W
        have HO := Hid.of W.o
        clear W HC HT
        go_wp2_with (at_builtin; refine wpList_appK slBytes wr rfl _ _ rfl (.slice A cur.length cp) cur.length 2 (u8s cur) rfl HO.out [.int .u8 (n % 256), .int .u8 (n / 256 % 256)] rfl rfl (by simp [Value.oneCell']) (by unfold maxLen; omega) (by omega) ?_; intro v5 w5 o5 k5 at5; obtain ⟨A5, c5, rfl, W5⟩ := HW.out.app HB.out.1 HB.out.2 (m := 2) (news := le16 n) rfl (by rw [le16_cells]; exact o5) k5 (by rcases at5 with e | e; { exact .inl e }; { exact .inr (.inl e) }); have HF := Hid.of W5; clear o5 k5 at5 W5)
        go_roundw
        case rel => exact ⟨j + 1, cur ++ le16 n, by omega, by go_num, by first | exact HF.out | (rw [List.length_append]; exact HF.out), by simp [le16]; omega, HN⟩
        case measure => simp [intOf]; omega
      | m =>
        have hbp : byteAt RB j = 109 := hbp
        obtain ⟨q1, q3, q4, e1, g1, g2, e3, g3, g4, e4, g5, g6, e5, e6⟩ := two_bytes m hm1 hm2
        have e3' : (m - q1 % 256).tdiv 256 = q3 := by rw [← e3]; congr 1; omega
        have HN : Hid ((cur ++ le16 m) = [b8 k, b8 t] ++ (R.take (j + 1)).flatMap (Scr.wr X)) := Hid.of (by rw [HC.out, HT.out, List.flatMap_append, ← HX.out]; simp [Scr.wr])
        have HW := Hid.of W
        have HO := Hid.of W.o
        clear W HC HT
        go_wp2_with (at_builtin; refine wpList_appK slBytes wr rfl _ _ rfl (.slice A cur.length cp) cur.length 2 (u8s cur) rfl HO.out [.int .u8 (m % 256), .int .u8 (m / 256 % 256)] rfl rfl (by simp [Value.oneCell']) (by unfold maxLen; omega) (by omega) ?_; intro v5 w5 o5 k5 at5; obtain ⟨A5, c5, rfl, W5⟩ := HW.out.app HB.out.1 HB.out.2 (m := 2) (news := le16 m) rfl (by rw [le16_cells]; exact o5) k5 (by rcases at5 with e | e; { exact .inl e }; { exact .inr (.inl e) }); have HF := Hid.of W5; clear o5 k5 at5 W5)
        go_roundw
        case rel => exact ⟨j + 1, cur ++ le16 m, by omega, by go_num, by first | exact HF.out | (rw [List.length_append]; exact HF.out), by simp [le16]; omega, HN⟩
        case measure => simp [intOf]; omega
      | d =>
        have hbp : byteAt RB j = 100 := hbp
        have HN : Hid ((cur ++ (b8 d.length :: d.take (d.length % 256))) = [b8 k, b8 t] ++ (R.take (j + 1)).flatMap (Scr.wr X)) := Hid.of (by rw [HC.out, HT.out, List.flatMap_append, ← HX.out]; simp [Scr.wr])
        have HW := Hid.of W
        have HO := Hid.of W.o
        obtain ⟨q, hq⟩ : ∃ q, d.length % 256 = q := ⟨_, rfl⟩
        have hqi : (d.length : Int) % 256 = (q : Int) := by omega
        have ew : IntKind.u8.wrap (d.length : Int) = (q : Int) := by rw [IntKind.wrap_u8]; exact hqi
        have hqb : q < 256 := by omega
        have hqd : (q : Int) ≤ (d.length : Int) := by omega
        have HL : Hid ((d.take q).length = q) := Hid.of (by rw [List.length_take]; omega)
        have HQ : Hid (u8s [b8 d.length] = [.int .u8 (q : Int)]) := Hid.of (by rw [b8_cells, hqi])
        rw [hq] at HN
        clear W HC HT hq
        go_wp2_with (first | (at_builtin; refine wpList_app1 slBytes wr rfl _ _ rfl (.slice A cur.length cp) cur.length (u8s cur) rfl HO.out [.int .u8 (q : Int)] rfl rfl (by simp [Value.oneCell']) (by unfold maxLen; omega) (by omega) ?_; intro v5 w5 o5 k5 at5; obtain ⟨A5, c5, rfl, W5⟩ := HW.out.app HB.out.1 HB.out.2 (m := 1) (news := [b8 d.length]) rfl (by rw [HQ.out]; exact o5) k5 (by rcases at5 with e | e; { exact .inl e }; { exact .inr (.inl e) }); obtain ⟨d0, d1, d2, d3, d4, d5⟩ := W5.q.all; rw [← HX.out] at d5; simp only [] at d5; have HO5 := Hid.of W5.o; have HW5 := Hid.of W5; clear o5 k5 at5 W5 d0 d1 d2 d3 d4) | (at_builtin; refine wpList_appS slBytes Try.underlying9 w5 rfl _ _ rfl (.slice A5 (cur.length + 1) c5) (cur ++ [b8 d.length]).length (u8s (cur ++ [b8 d.length])) rfl HO5.out (d.take q) rfl (by rw [HL.out]; simp; omega) ?_; intro v6 w6 o6 k6 at6; obtain ⟨A6, c6, rfl, W6⟩ := HW5.out.app HB.out.1 HB.out.2 (m := (d.take q).length) (news := d.take q) rfl o6 k6 (by rcases at6 with e | e; { exact .inl e }; { exact .inr (.inr e) }); have HF := Hid.of W6; clear o6 k6 at6 W6))
        go_roundw
        case rel => exact ⟨j + 1, cur ++ [b8 d.length] ++ d.take q, by omega, by go_num, by (have e : cur.length + 1 + min q d.length = (cur ++ [b8 (d.length : Int)]).length + (d.take q).length := by simp); rw [e]; exact HF.out, by have := HL.out; simp; omega, Hid.of (by rw [← HN.out, List.append_assoc]; rfl)⟩
        case measure => simp [intOf]; omega
      | h =>
        have hbp : byteAt RB j = 104 := hbp
        have HN : Hid ((cur ++ hb ⟨k, t, n, m, hd, d, bk⟩) = [b8 k, b8 t] ++ (R.take (j + 1)).flatMap (Scr.wr X)) := Hid.of (by rw [HC.out, HT.out, List.flatMap_append, ← HX.out]; simp [Scr.wr])
        have HW := Hid.of W
        have HO := Hid.of W.o
        clear W HC HT
        by_cases hz : hd = 0
        · have hz0 : (hd == 0) = true := by simpa using hz
          have e8 : IntKind.u8.wrap bk = bk % 256 := IntKind.wrap_u8 _
          have HN2 : Hid ((cur ++ [b8 bk]) = [b8 k, b8 t] ++ (R.take (j + 1)).flatMap (Scr.wr X)) := Hid.of (by rw [← HN.out]; unfold hb; rw [if_pos hz])
          clear hz HN
          go_wp2_with (at_builtin; refine wpList_app1 slBytes wr rfl _ _ rfl (.slice A cur.length cp) cur.length (u8s cur) rfl HO.out [.int .u8 (bk % 256)] rfl rfl (by simp [Value.oneCell']) (by unfold maxLen; omega) (by omega) ?_; intro v5 w5 o5 k5 at5; obtain ⟨A5, c5, rfl, W5⟩ := HW.out.app HB.out.1 HB.out.2 (m := 1) (news := [b8 bk]) rfl (by rw [b8_cells]; exact o5) k5 (by rcases at5 with e | e; { exact .inl e }; { exact .inr (.inl e) }); have HF := Hid.of W5; clear o5 k5 at5 W5)
          go_roundw
          case rel => exact ⟨j + 1, cur ++ [b8 bk], by omega, by go_num, by first | exact HF.out | (rw [List.length_append]; exact HF.out), by simp; omega, HN2⟩
          case measure => simp [intOf]; omega
        · have hz0 : (hd == 0) = false := by simpa using hz
          have HN2 : Hid ((cur ++ 255 :: le64 8 hd) = [b8 k, b8 t] ++ (R.take (j + 1)).flatMap (Scr.wr X)) := Hid.of (by rw [← HN.out]; unfold hb; rw [if_neg hz])
          clear hz HN
          go_wp2_with (at_builtin; refine wpList_app1 slBytes wr rfl _ _ rfl (.slice A cur.length cp) cur.length (u8s cur) rfl HO.out [.int .u8 255] rfl rfl (by simp [Value.oneCell']) (by unfold maxLen; omega) (by omega) ?_; intro v5 w5 o5 k5 at5; obtain ⟨A5, c5, rfl, W5⟩ := HW.out.app HB.out.1 HB.out.2 (m := 1) (news := [255]) rfl (by exact o5) k5 (by rcases at5 with e | e; { exact .inl e }; { exact .inr (.inl e) }); obtain ⟨d0, d1, d2, d3, d4, d5⟩ := W5.q.all; rw [← HX.out] at d4; simp only [] at d4; have HW5 := Hid.of W5; clear o5 k5 at5 W5 d0 d1 d2 d3 d5)
          go_loopw [4, 7, 8] (fun v hh i wz => ∃ (z : Nat) (hv : Int), z ≤ 8 ∧ i = .int .i64 z ∧ hh = .int .u64 hv ∧ 0 ≤ hv ∧ hv < 18446744073709551616 ∧ Hid (hv = hd / 256 ^ z) ∧ Wr w xb ob X wz v (cur ++ 255 :: le64 z hd)) (fun _ _ i _ => 8 - (intOf i).toNat)
          case atStart => exact ⟨0, hd, by omega, rfl, rfl, hu0, hu1, Hid.of (by simp), by first | exact HW5.out | (rw [show cur ++ 255 :: le64 0 hd = cur ++ [255] from rfl]; exact HW5.out)⟩
          case round =>
            clear HW5 d4
            obtain ⟨z, hv, hz8, rfl, rfl, hv0, hv1, HV, W⟩ := hrel
            by_cases hz9 : z < 8
            · have hzi : (z : Int) < 8 := by omega
              obtain ⟨A7, c7, rfl⟩ := W.ctx
              have HLc : Hid ((cur ++ 255 :: le64 z hd).length ≤ 5000020) := Hid.of (by simp [le64_length]; omega)
              have HS : Hid (cur ++ 255 :: le64 (z + 1) hd = (cur ++ 255 :: le64 z hd) ++ [b8 hv]) := Hid.of (by rw [le64_snoc, HV.out]; simp)
              have HV2 : Hid (hv / 256 = hd / 256 ^ (z + 1)) := Hid.of (by rw [HV.out, Int.pow_succ, Int.ediv_ediv_of_nonneg (Int.pow_nonneg (by decide))])
              obtain ⟨cur7, hc7⟩ : ∃ c, cur ++ 255 :: le64 z hd = c := ⟨_, rfl⟩
              rw [hc7] at W HLc HS
              rw [hc7]
              have HLe := HLc.out
              have HO7 := Hid.of W.o
              have HW7 := Hid.of W
              have ew : IntKind.u8.wrap (hv % 256) = hv % 256 := by rw [IntKind.wrap_u8]; omega
              clear W hc7 HLc
              go_wp2_with (at_builtin; refine wpList_app1 slBytes wr rfl _ _ rfl (.slice A7 cur7.length c7) cur7.length (u8s cur7) rfl HO7.out [.int .u8 (hv % 256)] rfl rfl (by simp [Value.oneCell']) (by unfold maxLen; omega) (by omega) ?_; intro v8 w8 o8 k8 at8; obtain ⟨A8, c8, rfl, W8⟩ := HW7.out.app HB.out.1 HB.out.2 (m := 1) (news := [b8 hv]) rfl (by rw [b8_cells]; exact o8) k8 (by rcases at8 with e | e; { exact .inl e }; { exact .inr (.inl e) }); have HF := Hid.of W8; clear o8 k8 at8 W8)
              go_roundw
              case rel => exact ⟨z + 1, hv / 256, by omega, by go_num, rfl, by omega, by omega, HV2, by rw [HS.out]; exact HF.out⟩
              case measure => simp [intOf]; omega
            · obtain rfl : z = 8 := by omega
              obtain ⟨A7, c7, rfl⟩ := W.ctx
              have HF := Hid.of W
              clear W HV hz9
              go_wp2
              go_roundw
              case rel => exact ⟨j + 1, cur ++ 255 :: le64 8 hd, by omega, by go_num, HF.out, by simp [le64_length]; omega, HN2⟩
              case measure => simp [intOf]; omega
    · have hje : j = R.length := by omega
      have hk1' : ¬ ((j : Int) < (RB.length : Int)) := by omega
      have HF : Hid (OutR 5 1 w.heap.size wr (.slice A cur.length cp) (rb X).length (u8s (rb X)) ∧ Keeps (fun _ => False) w wr) := by
        refine Hid.of ⟨?_, W.k⟩
        have e : cur = rb X := by rw [HC.out, HRB.out, hje, List.take_length]
        rw [← e]
        exact ⟨W.o, fun g hg => by have := W.f g hg; have := HB.out; omega⟩
      clear W HC hje
      go_wp2
      go_ret
      exact ⟨_, rfl, HF.out⟩
end Scr
end Go.Proofs.Ytmlolkjgniodpaa
