/- What awake's calls leave: plain facts. | The heap law's walk: awake. | The heap laws' walk: HeapNil. -/
import Derived.Test.YtnheibcjcgacpaaGreatDoorHei
set_option linter.unusedVariables false
set_option linter.unusedSimpArgs false
/-! What awake's calls leave: plain facts. -/
namespace Go.Proofs.YtnheibcjcgacpaaGreatDoor
open Go.RowKit Go.ChangeMaps
namespace He
def aw0 (S : Ar.AS) : T3 := ⟨⟨[0], [], [], emptyF, fun _ => [], []⟩, S, ⟨8, 1, fun _ => List.replicate (8 / 1) true⟩⟩
def awP : Pg.PG := Pg.newP (0 * 512) 0
def aw1 (S : Ar.AS) : T3 := new1 (holdT (aw0 S) 0) 0 256 0
def aw2 (S : Ar.AS) : T3 := mal1 (aw1 S) 0 ((256 : Nat) : Int) awP
def aw3 (S : Ar.AS) : T3 := mal1 (aw2 S) 0 ((256 : Nat) : Int) (Pg.alP awP)
def aw4 (S : Ar.AS) : T3 := holdT (aw3 S) 9
def aw5 (S : Ar.AS) : T3 := free3 (aw4 S) 0 0 256 (Pg.alP (Pg.alP awP)) 0
def aw6 (S : Ar.AS) : T3 := free3 (aw5 S) 0 0 256 (Pg.freeP (Pg.alP (Pg.alP awP)) 0) 1
set_option maxRecDepth 100000
theorem aw_kinds : Cl.kind 10 = ((0 : Nat) : Int) ∧ Cl.kind 600 = ((9 : Nat) : Int) := by decide
theorem aw_ok (S : Ar.AS) : holdOk (aw0 S) 0 = true ∧ holdS (aw0 S) 0 = ((0 : Nat) : Int) := ⟨by kernel_rfl, by kernel_rfl⟩
theorem aw_fx (S : Ar.AS) : Tab.fnd (holdT (aw0 S) 0).H.E ((256 : Nat) : Int) = ((0 : Nat) : Int) := by kernel_rfl
theorem aw_l1 (S : Ar.AS) : (aw1 S).H.L 0 = ((256 : Nat) : Int) :: [] := by kernel_rfl
theorem aw_p1 (S : Ar.AS) : eget (aw1 S).H.D ((256 : Nat) : Int) = some awP := by kernel_rfl
theorem aw_l2 (S : Ar.AS) : (aw2 S).H.L 0 = ((256 : Nat) : Int) :: [] := by kernel_rfl
theorem aw_p2 (S : Ar.AS) : eget (aw2 S).H.D ((256 : Nat) : Int) = some (Pg.alP awP) := by kernel_rfl
theorem aw_ok3 (S : Ar.AS) : holdOk (aw3 S) 9 = true ∧ holdS (aw3 S) 9 = ((0 : Nat) : Int) := ⟨by kernel_rfl, by kernel_rfl⟩
theorem aw_len4 (S : Ar.AS) : (aw4 S).H.E.length = 3 := by kernel_rfl
theorem aw_p4 (S : Ar.AS) : eget (aw4 S).H.D ((256 : Nat) : Int) = some (Pg.alP (Pg.alP awP)) := by kernel_rfl
theorem aw_b4 (S : Ar.AS) : blk (aw4 S).H 131072 = some (0, 0, 0) := by kernel_rfl
theorem aw_p5 (S : Ar.AS) : eget (aw5 S).H.D ((256 : Nat) : Int) = some (Pg.freeP (Pg.alP (Pg.alP awP)) 0) := by kernel_rfl
theorem aw_b5 (S : Ar.AS) : blk (aw5 S).H 131088 = some (0, 0, 1) := by kernel_rfl
theorem aw_b6 (S : Ar.AS) : blk (aw6 S).H 131072 = none := by kernel_rfl
theorem aw_len6 (S : Ar.AS) : (aw6 S).H.E.length = 2 := by kernel_rfl
theorem aw_S (S : Ar.AS) : (aw1 S).S = S ∧ (aw2 S).S = S ∧ (aw3 S).S = S ∧ (aw4 S).S = S := ⟨by kernel_rfl, by kernel_rfl, by kernel_rfl, by kernel_rfl⟩
theorem aw_S5 (S : Ar.AS) : (aw5 S).S = Pg.freeS (Pg.alP (Pg.alP awP)) S 0 := by kernel_rfl
theorem aw_W (S : Ar.AS) : (aw0 S).H.W.length = 1 ∧ (aw3 S).H.W.length = 1 := ⟨by kernel_rfl, by kernel_rfl⟩
theorem aw_alok (B : Bs) : Pg.AlOk B awP ∧ Pg.AlOk B (Pg.alP awP) := ⟨⟨by decide, by kernel_rfl⟩, ⟨by decide, by kernel_rfl⟩⟩
theorem aw_full : Pg.alK awP = 0 ∧ Pg.alK (Pg.alP awP) = 1 ∧ Pc.addr 0 0 0 = 131072 ∧ Pc.addr 0 0 1 = 131088 ∧ Pc.addr 9 0 0 = 1310720 ∧ Pc.loc 0 0 = 256 := ⟨by kernel_rfl, by kernel_rfl, by kernel_rfl, by kernel_rfl, by kernel_rfl, by kernel_rfl⟩
end He
end Go.Proofs.YtnheibcjcgacpaaGreatDoor

/-! The heap law's walk: awake. -/
namespace Go.Proofs.YtnheibcjcgacpaaGreatDoor
open Go.RowKit Go.ChangeMaps
namespace He
theorem aw_add : ((Pc.addr 0 0 (Pg.alK awP) : Nat) : Int) = 131072 ∧ ((Pc.addr 0 0 (Pg.alK (Pg.alP awP)) : Nat) : Int) = 131088 ∧ ((Pc.addr 9 0 0 : Nat) : Int) = 1310720 := ⟨by kernel_rfl, by kernel_rfl, by kernel_rfl⟩
theorem aw_c (S : Ar.AS) : (aw0 S).H.D = [] ∧ (aw0 S).M.C = 1 := ⟨rfl, rfl⟩
theorem aw_us (S : Ar.AS) : usableR (aw6 S).H 131072 = (0, 13) := by unfold usableR; rw [aw_b6]
theorem aw_kd : (Pg.alP (Pg.alP awP)).kind = 0 ∧ (Pg.freeP (Pg.alP (Pg.alP awP)) 0).kind = 0 ∧ (Pg.alP (Pg.alP awP)).base = 0 ∧ (Pg.freeP (Pg.alP (Pg.alP awP)) 0).base = 0 := ⟨by kernel_rfl, by kernel_rfl, by kernel_rfl, by kernel_rfl⟩
theorem aw_fl (S : Ar.AS) : (Pg.freeS (Pg.alP (Pg.alP awP)) S 0).T.length ≤ S.T.length + 2 := Pg.freeS_T _ _ _
theorem aw_fr1 {S : Ar.AS} (h1 : S.B.length = 4096) (h2 : S.T.length = 0) : Fr (aw1 S) 0 256 0 [] awP :=
  ⟨aw_l1 S, by kernel_rfl, by decide, aw_p1 S, by kernel_rfl, (aw_alok _).1, by rw [(aw_S S).1, h1]; show 0 * 512 + 512 ≤ 4096; omega, by rw [(aw_S S).1, h2]; omega⟩
theorem aw_fr2 {S : Ar.AS} (h1 : S.B.length = 4096) (h2 : S.T.length = 0) : Fr (aw2 S) 0 256 0 [] (Pg.alP awP) :=
  ⟨aw_l2 S, by kernel_rfl, by decide, aw_p2 S, by kernel_rfl, (aw_alok _).2, by rw [(aw_S S).2.1, h1]; show 0 * 512 + 512 ≤ 4096; omega, by rw [(aw_S S).2.1, h2]; omega⟩
theorem aw_nw (S : Ar.AS) : Nw (aw0 S) (aw1 S) 0 256 0 0 := ⟨rfl, (aw_ok S).1, (aw_ok S).2, rfl, aw_fx S, by rw [(aw_W S).1]; omega, rfl⟩
set_option maxRecDepth 100000 in
set_option maxHeartbeats 4000000 in
theorem awake_any (w : World) (hT : Sh.Tab w) :
    Calls Tryz.prog 16 #[] w fun e w' => e = .returned (.bool true) ∧ Keeps (fun _ => False) w w' := by
  have q0 := Ar.new_any w 4096 (by omega)
  unfold Ar.NewR at q0
  have HT := Hid.of hT
  clear hT
  go_enter Tryz.func16, Tryz.ntmps16
  go_wp2_with fail
  refine q0.mono ?_
  rintro e w1 ⟨p, v, rfl, a1, f1, k1⟩
  obtain ⟨S, hS⟩ : ∃ S : Ar.AS, (⟨List.replicate 4096 0, []⟩ : Ar.AS) = S := ⟨_, rfl⟩
  rw [hS] at a1
  have HS := Hid.of (show S.B.length = 4096 ∧ S.T.length = 0 from by rw [← hS]; exact ⟨List.length_replicate .., rfl⟩)
  have H1 := Hid.of (And.intro a1 (And.intro f1 k1))
  clear q0 hS a1 f1 k1
  have q1 := Co.new_any w1 8 1 ⟨by omega, by omega, by omega, by omega, by omega⟩
  unfold Co.NewR at q1
  go_wp2_with fail
  refine q1.mono ?_
  rintro e w2 ⟨cp, rfl, a2, f2, k2⟩
  have H2 := Hid.of (And.intro a2 (And.intro f2 k2))
  clear q1 a2 f2 k2
  obtain ⟨w3, hw3⟩ : ∃ w3, w2.alloc (.cells #[.int .i64 0] 3) = w3 := ⟨_, rfl⟩
  have b3 : w3.heap[w2.heap.size]? = some (.cells #[.int .i64 0] 3 (0, 0)) := by rw [← hw3]; exact alloc_new _ _
  have k3 : Keeps (fun _ => False) w2 w3 := by rw [← hw3]; exact (Keeps.refl _ _).alloc _
  have q2 := new_any w3 (fun _ => ⟨0, 0, 0, 0, undef⟩) p v cp S ⟨8, 1, fun _ => List.replicate (8 / 1) true⟩ (some ⟨w2.heap.size, 0, none⟩) 1 1 [0] (fun e => by cases e) rfl (fun j u hu => by
      cases j with
      | zero => have hu : some (Value.int .i64 0) = some u := hu; rw [← hu]; exact ⟨_, rfl, cell_of b3 0 rfl⟩
      | succ j => simp [ints] at hu) (by omega) ((H1.out.1.old H2.out.2.2).old k3) (H2.out.1.old k3) (((HT.out.old H1.out.2.2).old H2.out.2.2).old k3)
    (fun x hx hy => by have := H1.out.1.lt hx; have := H2.out.2.1 x hy; omega)
    (fun x hx => by
      have h1 := HT.out.lt
      have h2 := H1.out.2.2.size
      rcases hx with e | e
      · have := H1.out.2.1 x e; omega
      · have := H2.out.2.1 x e; omega) HS.out.1
  unfold NwR at q2
  have HK3 := Hid.of ((H1.out.2.2.trans H2.out.2.2).trans k3)
  have HF0 := Hid.of (show (∀ x, Ar.Fp p v x → w.heap.size ≤ x) ∧ (∀ x, Co.Fp cp 1 x → w.heap.size ≤ x) from ⟨H1.out.2.1, fun x hx => Nat.le_trans H1.out.2.2.size (H2.out.2.1 x hx)⟩)
  clear b3 k3 H1 H2
  go_wp2_with fail
  refine q2.mono ?_
  rintro e w4 ⟨X, rfl, j4, f4, k4⟩
  have G4 := Hid.of (show HG w4 X (fun _ => ⟨0, 0, 0, 0, undef⟩) p v cp [] 1 X (fun _ => ⟨0, 0, 0, 0, undef⟩) v (aw0 S).H (aw0 S).S (aw0 S).M w4 from HG.refl j4 (Keeps.refl _ _))
  have HFK := Hid.of (show (∀ x, AF X (fun _ => ⟨0, 0, 0, 0, undef⟩) [] p v cp 1 x → w.heap.size ≤ x) ∧ Keeps (fun _ => False) w w4 from ⟨fun x hx => by
    rcases hx with e | e | e
    · exact Nat.le_trans HK3.out.size (f4 x e)
    · exact HF0.out.1 x e
    · exact HF0.out.2 x e, HK3.out.trans k4⟩)
  generalize (fun _ => ⟨0, 0, 0, 0, undef⟩ : Int → Pg.Pla) = g at *
  clear q2 j4 f4 k4 hw3 HK3 HF0 HT
  have q3 := malloc_any w4 X g p v cp (aw0 S) (aw1 S) 10 0 256 0 0 [] awP aw_kinds.1 (by omega) G4.out.j (aw_fr1 HS.out.1 HS.out.2) (.inr (aw_nw S))
  unfold MalR at q3
  rw [aw_add.1, (aw_c S).1, (aw_c S).2, show mal1 (aw1 S) 0 ((256 : Nat) : Int) awP = aw2 S from rfl] at q3
  go_wp2_with fail
  refine q3.mono ?_
  rintro e w5 ⟨rfl, g5, v5, h5⟩
  have G5 := Hid.of h5
  clear q3 h5 G4
  have q4 := malloc_any w5 X g5 p v5 cp (aw2 S) (aw2 S) 10 0 256 0 0 [] (Pg.alP awP) aw_kinds.1 (by omega) G5.out.j (aw_fr2 HS.out.1 HS.out.2) (.inl rfl)
  unfold MalR at q4
  rw [aw_add.2.1, G5.out.c, show mal1 (aw2 S) 0 ((256 : Nat) : Int) (Pg.alP awP) = aw3 S from rfl] at q4
  go_wp2_with fail
  refine q4.mono ?_
  rintro e w6 ⟨rfl, g6, v6, h6⟩
  have G6 := Hid.of (G5.out.trans h6)
  clear q4 h6 G5
  have q5 := malloc_great w6 X g6 p v6 cp (aw3 S) 600 9 0 aw_kinds.2 (by omega) (by omega) (aw_ok3 S).1 (aw_ok3 S).2 (by decide) (by rw [(aw_W S).2]; omega) G6.out.j
  unfold MalR at q5
  rw [aw_add.2.2, G6.out.c, show holdT (aw3 S) 9 = aw4 S from rfl] at q5
  go_wp2_with fail
  refine q5.mono ?_
  rintro e w7 ⟨rfl, g7, v7, h7⟩
  have G7 := Hid.of (G6.out.trans h7)
  clear q5 h7 G6
  have q6 := pages_any w7 X g7 p v7 cp (aw4 S).H (aw4 S).S (aw4 S).M G7.out.j
  rw [aw_len4] at q6
  go_wp2_with fail
  refine q6.mono ?_
  rintro e w8 ⟨rfl, rfl⟩
  clear q6
  obtain ⟨w8, hw8⟩ : ∃ z, z = w7 := ⟨_, rfl⟩
  subst hw8
  have q7 := free_small w8 X g7 p v7 cp (aw4 S) 131072 0 0 0 256 (Pg.alP (Pg.alP awP)) (by omega) (aw_b4 S) (by omega) rfl (aw_p4 S) aw_kd.1 (by rw [aw_kd.2.2.1, (aw_S S).2.2.2, HS.out.1]; omega) G7.out.j (by rw [(aw_S S).2.2.2, HS.out.2]; omega)
  unfold FreR at q7
  rw [G7.out.c, show free3 (aw4 S) 0 0 256 (Pg.alP (Pg.alP awP)) 0 = aw5 S from rfl] at q7
  go_wp2_with fail
  refine q7.mono ?_
  rintro e w9 ⟨rfl, v9, h9⟩
  have G9 := Hid.of (G7.out.trans h9)
  clear q7 h9 G7
  have q8 := free_small w9 X g7 p v9 cp (aw5 S) 131088 0 0 1 256 (Pg.freeP (Pg.alP (Pg.alP awP)) 0) (by omega) (aw_b5 S) (by omega) rfl (aw_p5 S) aw_kd.2.1 (by rw [aw_kd.2.2.2, aw_S5, Pg.freeS_len (by rw [aw_kd.1]; omega) (by decide) (by rw [aw_kd.2.2.1, HS.out.1]; omega), HS.out.1]; omega) G9.out.j (by rw [aw_S5]; have := aw_fl S; rw [HS.out.2] at this; omega)
  unfold FreR at q8
  rw [G9.out.c, show free3 (aw5 S) 0 0 256 (Pg.freeP (Pg.alP (Pg.alP awP)) 0) 1 = aw6 S from rfl] at q8
  go_wp2_with fail
  refine q8.mono ?_
  rintro e w10 ⟨rfl, v10, h10⟩
  have G10 := Hid.of (G9.out.trans h10)
  clear q8 h10 G9
  have q9 := usable_any w10 X g7 p v10 cp (aw6 S).H (aw6 S).S (aw6 S).M 131072 (by omega) G10.out.j
  rw [aw_us] at q9
  go_wp2_with fail
  refine q9.mono ?_
  rintro e w11 ⟨rfl, k11⟩
  have q10 := pages_any w11 X g7 p v10 cp (aw6 S).H (aw6 S).S (aw6 S).M (G10.out.j.old k11)
  rw [aw_len6] at q10
  have HK := Hid.of k11
  clear q9 k11
  go_wp2_with fail
  refine q10.mono ?_
  rintro e w12 ⟨rfl, rfl⟩
  clear q10
  go_wp2
  go_ret
  exact ⟨rfl, HFK.out.2.trans' (G10.out.keeps.trans' HK.out (fun x hx _ => hx.elim)) (fun x hx hl => by have := HFK.out.1 x hx; omega)⟩
end He
end Go.Proofs.YtnheibcjcgacpaaGreatDoor

/-! The heap laws' walk: HeapNil. -/
namespace Go.Proofs.YtnheibcjcgacpaaGreatDoor
open Go.RowKit Go.ChangeMaps
namespace He
set_option maxRecDepth 100000 in
theorem drop_nil (w : World) : Calls Tryz.prog 35 #[.pointer none] w fun e w' => e = .returned (.tuple #[]) ∧ w = w' := by
  go_enter Tryz.func35, Tryz.ntmps35
  go_wp2
  refine bodyPost_ret (v := .tuple #[]) ?_ ?_ ⟨?_, rfl⟩
  · simp [results, Tryz.results35, go_sem]
  · rfl
  · rfl
set_option maxRecDepth 100000 in
theorem malloc_nil (w : World) (n : Int) : Calls Tryz.prog 20 #[.pointer none, .int .i64 n] w fun e w' => e = .returned (.tuple #[.int .i64 0, .int .i64 11]) ∧ w = w' := by
  have q0 := Cl.of_any w n
  generalize Cl.kind n = c at *
  go_enter Tryz.func20, Tryz.ntmps20
  go_wp2
  refine wp_scope_once 0 (fun _ _ _ => False) rfl (fun _ _ _ h => h.elim) ?_
  intro hr
  clear hr
  go_wp2_with fail
  refine q0.mono ?_
  rintro e w1 ⟨rfl, rfl⟩
  clear q0
  go_wp2
  simp only [Exit.jump]
  go_ret2
  exact ⟨rfl, rfl⟩
set_option maxRecDepth 100000 in
theorem block_nil (w : World) (n : Int) : Calls Tryz.prog 95 #[.pointer none, .int .i64 n] w fun e w' => e = .returned (.tuple #[.int .i64 0, .int .i64 0, .int .i64 0, .int .i64 11]) ∧ w = w' := by
  go_enter Tryz.func95, Tryz.ntmps95
  go_wp2
  refine bodyPost_ret (v := .tuple #[.int .i64 0, .int .i64 0, .int .i64 0, .int .i64 11]) ?_ ?_ ⟨?_, rfl⟩
  · simp [results, Tryz.results95, go_sem]
  · rfl
  · rfl
set_option maxRecDepth 100000 in
theorem usable_nil (w : World) (n : Int) : Calls Tryz.prog 22 #[.pointer none, .int .i64 n] w fun e w' => e = .returned (.tuple #[.int .i64 0, .int .i64 11]) ∧ w = w' := by
  have q := block_nil w n
  go_enter Tryz.func22, Tryz.ntmps22
  go_wp2_with fail
  refine q.mono ?_
  rintro e w1 ⟨rfl, rfl⟩
  clear q
  go_wp2
  go_ret2
  exact ⟨rfl, rfl⟩
set_option maxRecDepth 100000 in
theorem free_nil (w : World) (n : Int) : Calls Tryz.prog 23 #[.pointer none, .int .i64 n] w fun e w' => e = .returned (.int .i64 11) ∧ w = w' := by
  have q := block_nil w n
  go_enter Tryz.func23, Tryz.ntmps23
  go_wp2_with fail
  refine q.mono ?_
  rintro e w1 ⟨rfl, rfl⟩
  clear q
  go_wp2
  go_ret
  exact ⟨rfl, rfl⟩
set_option maxRecDepth 100000 in
theorem new_nil (w : World) (A : Option Addr) (n cap : Nat) : Calls Tryz.prog 79 #[.pointer none, .pointer none, .slice A n cap] w fun e w' => e = .returned (.tuple #[.pointer none, .int .i64 11]) ∧ w = w' := by
  go_enter Tryz.func79, Tryz.ntmps79
  go_wp2
  go_ret2
  exact ⟨rfl, rfl⟩
set_option maxRecDepth 100000 in
theorem move_nil (w : World) (A : Option Addr) (n cap : Nat) : Calls Tryz.prog 49 #[.pointer none, .slice A n cap] w fun e w' => e = .returned (.int .i64 11) ∧ w = w' := by
  go_enter Tryz.func49, Tryz.ntmps49
  go_wp2
  go_ret
  exact ⟨rfl, rfl⟩
set_option maxRecDepth 100000 in
theorem blocks_nil (w : World) : Calls Tryz.prog 21 #[.pointer none] w fun e w' => e = .returned (.slice none 0 0) ∧ w = w' := by
  go_enter Tryz.func21, Tryz.ntmps21
  go_wp2
  go_ret
  exact ⟨rfl, rfl⟩
set_option maxRecDepth 100000 in
theorem pages_nil (w : World) : Calls Tryz.prog 24 #[.pointer none] w fun e w' => e = .returned (.int .i64 0) ∧ w = w' := by
  go_enter Tryz.func24, Tryz.ntmps24
  go_wp2
  go_ret
  exact ⟨rfl, rfl⟩
set_option maxRecDepth 100000 in
theorem table_nil (w : World) : Calls Tryz.prog 26 #[.pointer none] w fun e w' => e = .returned (.pointer none) ∧ w = w' := by
  go_enter Tryz.func26, Tryz.ntmps26
  go_wp2
  go_ret
  exact ⟨rfl, rfl⟩
set_option maxRecDepth 100000 in
theorem window_nil (w : World) : Calls Tryz.prog 41 #[.pointer none] w fun e w' => e = .returned (.slice none 0 0) ∧ w = w' := by
  go_enter Tryz.func41, Tryz.ntmps41
  go_wp2
  go_ret
  exact ⟨rfl, rfl⟩
/-- 'append(xs, ys...)' under a guard that holds. -/
theorem wpList_appG {t e size bytes : Nat} {P : Program} (T : SlT P t e size bytes) (w : World) {ops : Array Oper} {rest : List Oper} {o : Oper} {a : Act} {Q : Exit → Act → World → Prop} (s x : Operand)
    (ho : o.op = .call { callee := .builtin .append, args := #[s, x], argTypes := #[t, t] }) (v : Value) (n : Nat) (xs : List Value) (hs : a.eval s = v) (hown : Own w e size v n xs) (A : Option Addr) (m c : Nat)
    (news : List Value) (hx : a.eval x = .slice A m c) (hA : A = none → m = 0 ∧ c = 0) (hl : news.length = m * size) (hr : Rd w A news) (h1 : ∀ u ∈ news, u.oneCell' = true) (h63 : n + m ≤ maxLen) (hbytes : (n + m) * bytes ≤ 140737488355328)
    (hw : Region.wanted o (yielded ops a.tmps) = true)
    (h : ∀ v' w', Own w' e size v' (n + m) (xs ++ news) → Keeps (fun b => v.ownBlock = some b) w w' → (v'.ownBlock = v.ownBlock ∨ v'.ownBlock = some w.heap.size) → wpList P ops Q rest (a.put o.dst v') w') :
    wpList P ops Q (o :: rest) a w := by
  refine wpList_step fun K hK => ?_
  rw [if_pos hw]
  obtain ⟨v', w', hrun, r2, r3, r4⟩ := run_appL (P := P) T w o.type v n xs hown A m c news hA hl hr h1 h63 hbytes
  unfold Oper.wp execOp
  simp only [ho, resolve, invoke, builtin, Sem.run_bind, Sem.run_pure, Result.andThen_ok, List.map_toArray, List.map_cons, List.map_nil, hs, hx, hrun]
  exact hK _ _ (h v' w' r2 r3 r4)
theorem app_end {w w1 w2 : World} {v : Value} {m : Nat} {xs : List Value} (hw : w.alloc (.cells #[] 3) = w1) (o : Own w2 3 1 v (0 + m) xs) (k : Keeps (fun b => (Value.slice (some ⟨w.heap.size, 0, none⟩) 0 0).ownBlock = some b) w1 w2) : (∃ A' cap', v = .slice A' m cap') ∧ Keeps (fun _ => False) w w2 := by
  have k3 : Keeps (fun _ => False) w w1 := by rw [← hw]; exact (Keeps.refl _ _).alloc _
  obtain ⟨A', cap', e3, -⟩ := o.rd
  rw [Nat.zero_add] at e3
  exact ⟨⟨A', cap', e3⟩, k3.trans' k (fun x hx hlt => by
    have hx : some w.heap.size = some x := hx
    injection hx with hx; omega)⟩
theorem dec_int1 {w : World} {n : Nat} (cs : List Value) (h : All2 (Leaf.ok w (n + 1)) [.int .i64] cs) : ∃ x : Int, True ∧ cs = [Value.int .i64 x] := by
  obtain ⟨b1, bs1, rfl, h1, g1⟩ := h.inv_cons
  obtain rfl := g1.inv_nil
  obtain ⟨x1, rfl, _⟩ := h1
  exact ⟨x1, trivial, rfl⟩
theorem flat_ints (W : List Int) : W.flatMap (fun x => [Value.int .i64 x]) = ints W := by
  unfold ints
  induction W with
  | nil => rfl
  | cons x W ih => rw [List.flatMap_cons, ih]; rfl
/-- An argument that is a row of ints. -/
theorem ints_arg {w : World} {n : Nat} {v : Value} (h : Leaf.ok w (n + 2) (.sl 1 [.int .i64]) v) :
    ∃ A m cap W, v = .slice A m cap ∧ (A = none → m = 0 ∧ cap = 0) ∧ W.length = m ∧ Rd w A (ints W) := by
  obtain ⟨A, cap, xs, hv, h1, h2, h3⟩ := rows_list w (n + 1) 1 _ (fun x : Int => [Value.int .i64 x]) (fun _ => True) (fun _ => rfl) dec_int1 h
  obtain ⟨A', len, cap', rfl, hlc, hcm, hA, hr⟩ := h
  injection hv with e1 e2 e3
  subst e1 e2 e3
  rw [flat_ints] at h3
  exact ⟨_, _, _, xs, rfl, hA, rfl, h3⟩
end He
end Go.Proofs.YtnheibcjcgacpaaGreatDoor
