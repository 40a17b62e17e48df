/- project.Alike. -/
import Derived.Test.YtmlolkjgniodpaaProjG
set_option linter.unusedVariables false
set_option linter.unusedSimpArgs false
namespace Go.Proofs.Ytmlolkjgniodpaa
open Go.RowKit Go.ChangeMaps
attribute [-go_sem] run_neq_struct run_eql_struct run_equalIn_agg
namespace Proj
theorem slice_pre (t e : TypeId) (ht0 : Try.prog.underlying t = some (.slice e)) (sz : Nat) (hs : ∀ w, (sizeOf e).run Try.prog w = .ok sz w) (A : Option Addr) (n z cap : Nat) (hz : z ≤ cap) (w : World) :
    (Instr.sliceAt t (.slice A n cap) none (some (.int .i64 z)) none).run Try.prog w = .ok (.slice A z cap) w := by
  have he : Try.prog.elem t = e := by simp [Program.elem, ht0]
  have ht : Try.prog.underlying t = some (.slice (Try.prog.elem t)) := by rw [he]; exact ht0
  rw [run_sliceAt_slice w t _ _ _ _ ht, run_slice_h w t A n cap ht .i64 z (by omega) (by omega), he, hs]
  have : sliced A 0 (z : Int).toNat cap sz = .slice A z cap := by
    unfold sliced
    cases A with
    | none => simp
    | some a => simp [Addr.add]
  simpa [Result.andThen] using this
theorem slice_ops (A : Option Addr) (n z cap : Nat) (hz : z ≤ cap) (w : World) : (Instr.sliceAt 22 (.slice A n cap) none (some (.int .i64 z)) none).run Try.prog w = .ok (.slice A z cap) w :=
  slice_pre 22 30 Try.underlying22 6 (fun w => by kernel_rfl) A n z cap hz w
theorem slice_ops' (A : Option Addr) (n z cap : Nat) (hz : z ≤ cap) (w : World) : (Instr.slice 22 (.slice A n cap) none (some (.int .i64 z)) none).run Try.prog w = .ok (.slice A z cap) w := by
  have he : Try.prog.elem 22 = 30 := by simp [Program.elem, Try.underlying22]
  rw [← run_sliceAt_slice w _ _ _ _ _ (by rw [he]; exact Try.underlying22)]
  exact slice_ops A n z cap hz w
theorem min_is (n m : Nat) : ∃ z : Nat, (∀ (ts : Array TypeId) (ty : TypeId) (w : World), (Builtin.min_ ts ty #[.int .i64 n, .int .i64 m]).run Try.prog w = .ok (.int .i64 z) w) ∧ ((z = n ∧ n ≤ m) ∨ (z = m ∧ m < n)) := by
  by_cases h : m < n
  · refine ⟨m, fun ts ty w => ?_, .inr ⟨rfl, h⟩⟩
    rw [run_min_int, if_pos (by omega)]
  · refine ⟨n, fun ts ty w => ?_, .inl ⟨rfl, by omega⟩⟩
    rw [run_min_int, if_neg (by omega)]
theorem fst_of_alike {a b : List See} (h : alikeL a b = true) : a.map (·.1) = b.map (·.1) := by
  obtain ⟨h1, h2⟩ := (alikeL_iff a b).1 h
  apply List.ext_getElem?
  intro i
  rw [List.getElem?_map, List.getElem?_map]
  cases ha : a[i]? with
  | none =>
    have : b[i]? = none := by rw [List.getElem?_eq_none_iff] at ha ⊢; omega
    rw [this]
  | some p =>
    have hi := (List.getElem?_eq_some_iff.1 ha).1
    have hb : b[i]? = some b[i] := List.getElem?_eq_getElem (by omega)
    rw [hb]
    simp only [Option.map_some]
    rw [(h2 i _ _ ha hb).1]
theorem get_of_maps {a : List See} {i : Nat} {o : XOp} {x : XAns} (ho : (a.map (·.1))[i]? = some o) (hx : (a.map (·.2))[i]? = some x) : a[i]? = some (o, x) := by
  rw [List.getElem?_map] at ho hx
  cases h : a[i]? with
  | none => rw [h] at ho; simp at ho
  | some p => rw [h] at ho hx; simp at ho hx; rw [← ho, ← hx]
set_option maxRecDepth 100000 in
def alFrame (x0 x1 x2 x3 x4 x11 x12 x13 x14 x15 : Value) (u : Nat → Value) : Act := { tmps := #[x0, x1, x2, x3, x4, u 5, u 6, u 7, u 8, u 9, u 10, x11, x12, x13, x14, x15, u 16, u 17, u 18, u 19, u 20, u 21, u 22, u 23, u 24, u 25, u 26, u 27, u 28, u 29, u 30, u 31, u 32, u 33, u 34, u 35, u 36, u 37, u 38, u 39, u 40, u 41, u 42, u 43, u 44, u 45, u 46, u 47, u 48, u 49, u 50, u 51, u 52, u 53, u 54, u 55, u 56, u 57, u 58, u 59, u 60, u 61, u 62, u 63, u 64, u 65, u 66, u 67, u 68, u 69], defers := [] }
set_option maxRecDepth 100000 in
theorem alFrame_is (v0 v1 v2 v3 v4 v5 v6 v7 v8 v9 v10 v11 v12 v13 v14 v15 v16 v17 v18 v19 v20 v21 v22 v23 v24 v25 v26 v27 v28 v29 v30 v31 v32 v33 v34 v35 v36 v37 v38 v39 v40 v41 v42 v43 v44 v45 v46 v47 v48 v49 v50 v51 v52 v53 v54 v55 v56 v57 v58 v59 v60 v61 v62 v63 v64 v65 v66 v67 v68 v69 : Value) : ({ tmps := #[v0, v1, v2, v3, v4, v5, v6, v7, v8, v9, v10, v11, v12, v13, v14, v15, v16, v17, v18, v19, v20, v21, v22, v23, v24, v25, v26, v27, v28, v29, v30, v31, v32, v33, v34, v35, v36, v37, v38, v39, v40, v41, v42, v43, v44, v45, v46, v47, v48, v49, v50, v51, v52, v53, v54, v55, v56, v57, v58, v59, v60, v61, v62, v63, v64, v65, v66, v67, v68, v69], defers := [] } : Act) = alFrame v0 v1 v2 v3 v4 v11 v12 v13 v14 v15 (fun i => #[v0, v1, v2, v3, v4, v5, v6, v7, v8, v9, v10, v11, v12, v13, v14, v15, v16, v17, v18, v19, v20, v21, v22, v23, v24, v25, v26, v27, v28, v29, v30, v31, v32, v33, v34, v35, v36, v37, v38, v39, v40, v41, v42, v43, v44, v45, v46, v47, v48, v49, v50, v51, v52, v53, v54, v55, v56, v57, v58, v59, v60, v61, v62, v63, v64, v65, v66, v67, v68, v69].getD i undef) := rfl
set_option maxRecDepth 100000 in
set_option maxHeartbeats 1500000 in
theorem alike_any (w : World) (A B A2 B2 : Option Addr) (ca cb ca2 cb2 : Nat) (id : Int) (xs xs2 : List XOp) (ys ys2 : List XAns) (ha : Rd w A (ops xs)) (hb : Rd w B (anss ys)) (ha2 : Rd w A2 (ops xs2)) (hb2 : Rd w B2 (anss ys2)) (hx : xs.length ≤ 1000000) (hy : ys.length ≤ 1000000) (hx2 : xs2.length ≤ 1000000) (hy2 : ys2.length ≤ 1000000)
    (hca : xs.length ≤ ca) (hca2 : xs2.length ≤ ca2) (hm1 : ca ≤ maxLen) (hm2 : ca2 ≤ maxLen) (hA : A = none → ca = 0) (hA2 : A2 = none → ca2 = 0) :
    Calls Try.prog 19 #[.int .i64 id, .slice A xs.length ca, .slice B ys.length cb, .slice A2 xs2.length ca2, .slice B2 ys2.length cb2] w fun e w' => e = .returned (.bool (alikeL (viewL id xs ys) (viewL id xs2 ys2))) ∧ Keeps (fun _ => False) w w' := by
  unfold maxLen at hm1 hm2
  obtain ⟨z1, m1, hz1⟩ := min_is xs.length ys.length
  obtain ⟨z2, m2, hz2⟩ := min_is xs2.length ys2.length
  have v1 := view_fst id xs ys z1 (by omega)
  have v2 := view_fst id xs2 ys2 z2 (by omega)
  have l1 := view_len id xs ys
  have l2 := view_len id xs2 ys2
  have t1 : (xs.take z1).length = z1 := by rw [List.length_take]; omega
  have t2 : (xs2.take z2).length = z2 := by rw [List.length_take]; omega
  have q1 := of_any w A ca id (xs.take z1) z1 (ops_prefix ha z1) t1 (by omega)
  have q2 := fun (wx : World) (k : Keeps (fun _ => False) w wx) => said_any wx A B ca cb id xs ys (ha.old k) (hb.old k) hx hy
  have q3 := fun (wx : World) (k : Keeps (fun _ => False) w wx) => of_any wx A2 ca2 id (xs2.take z2) z2 (ops_prefix (ha2.old k) z2) t2 (by omega)
  have q4 := fun (wx : World) (k : Keeps (fun _ => False) w wx) => said_any wx A2 B2 ca2 cb2 id xs2 ys2 (ha2.old k) (hb2.old k) hx2 hy2
  have s1 : (viewL id xs ys).map (·.2) = saidL id xs ys := rfl
  have s2 : (viewL id xs2 ys2).map (·.2) = saidL id xs2 ys2 := rfl
  rw [← v1] at q1
  rw [← v2] at q3
  rw [← s1] at q2
  rw [← s2] at q4
  clear v1 v2 s1 s2 t1 t2
  generalize viewL id xs ys = a at *
  generalize viewL id xs2 ys2 = b at *
  simp only [List.length_map] at q1 q2 q3 q4
  have sl1 := slice_ops A xs.length z1 ca (by omega)
  have sl2 := slice_ops A2 xs2.length z2 ca2 (by omega)
  have sl3 := slice_ops' A xs.length z1 ca (by omega)
  have sl4 := slice_ops' A2 xs2.length z2 ca2 (by omega)
  have HI := Hid.of (alikeL_iff a b)
  have HF := Hid.of (fun h => fst_of_alike (a := a) (b := b) h)
  have hla : a.length ≤ 1000000 := by omega
  have hlb : b.length ≤ 1000000 := by omega
  clear l1 l2 hz1 hz2 ha hb ha2 hb2 hA hA2
  generalize alikeL a b = r at *
  go_enter Try.func19, Try.ntmps19
  go_wp2
  refine wp_scope_once 0 (fun n a' w' => ∃ (i d1 d2 d3 d4 : Nat) (C1 C2 C3 C4 : Option Addr) (u : Nat → Value), n = a.length - i ∧ i ≤ a.length ∧ a.length = b.length ∧ Hid (a.map (·.1) = b.map (·.1)) ∧ a' = alFrame (.int .i64 id) (.slice A xs.length ca) (.slice B ys.length cb) (.slice A2 xs2.length ca2) (.slice B2 ys2.length cb2) (.slice C1 a.length d1) (.slice C2 a.length d2) (.slice C3 a.length d3) (.slice C4 a.length d4) (.int .i64 i) u ∧ Hid (∀ (i' : Nat) p q, i' < i → a[i']? = some p → b[i']? = some q → p.1 = q.1 ∧ bad p q = false) ∧ Keeps (fun _ => False) w w' ∧ Rd w' C1 (ops (a.map (·.1))) ∧ Rd w' C2 (anss (a.map (·.2))) ∧ Rd w' C4 (anss (b.map (·.2)))) rfl ?_ ?_
  · rintro n a' w' ⟨i, d1, d2, d3, d4, C1, C2, C3, C4, u, rfl, hi, hlen, HE, hf, hT, kp, r1, r2, r4⟩
    unfold alFrame at hf
    subst hf
    clear q1 q2 q3 q4 m1 m2 sl1 sl2 sl3 sl4
    have HL := Hid.of hlen
    by_cases hlt : i < a.length
    · obtain ⟨b1, o1, s1, x1, x2, x3, x4, x5, x6, hg1, rfl, c0, c1, c2, c3, c4, c5⟩ := rop r1 i (by rw [List.length_map]; exact hlt)
      obtain ⟨b2, o2, s2, y1, y2, y3, y4, y5, y6, hg2, rfl, e0, e1, e2, e3, e4, e5⟩ := rans r2 i (by rw [List.length_map]; exact hlt)
      obtain ⟨b3, o3, s3, z1, z2, z3, z4, z5, z6, hg3, rfl, f0, f1, f2, f3, f4, f5⟩ := rans r4 i (by rw [List.length_map, ← hlen]; exact hlt)
      have G1 := get_of_maps hg1 hg2
      have G2 := get_of_maps (by rw [← HE.out]; exact hg1) hg3
      have HG := Hid.of (And.intro G1 G2)
      have HR := Hid.of (And.intro r1 (And.intro r2 r4))
      have hi1 : ((i : Int) == a.length) = false := by simp; omega
      have hi2 : (i : Int) < a.length := by omega
      clear hlen G1 G2 hg1 hg2 hg3 r1 r2 r4
      have cR := fun (wx : World) => admin_any wx x1 x2 x3 x4 x5 x6
      have HBad : Hid (bad (⟨x1, x2, x3, x4, x5, x6⟩, ⟨y1, y2, y3, y4, y5, y6⟩) (⟨x1, x2, x3, x4, x5, x6⟩, ⟨z1, z2, z3, z4, z5, z6⟩) = (adm ⟨x1, x2, x3, x4, x5, x6⟩ && (y1 != z1))) := rfl
      generalize adm ⟨x1, x2, x3, x4, x5, x6⟩ = rr at *
      have hsp : rr = false ∨ (rr = true ∧ y1 = z1) ∨ (rr = true ∧ y1 ≠ z1) := by
        cases rr <;> simp; omega
      rcases hsp with h1 | ⟨h1, h2⟩ | ⟨h1, h2⟩
      · have hbf : bad (⟨x1, x2, x3, x4, x5, x6⟩, ⟨y1, y2, y3, y4, y5, y6⟩) (⟨x1, x2, x3, x4, x5, x6⟩, ⟨z1, z2, z3, z4, z5, z6⟩) = false := by
          rw [HBad.out]; rw [h1]; rfl
        have hst := Hid.of (upto_step (R := fun p q => p.1 = q.1 ∧ bad p q = false) hT.out HG.out.1 HG.out.2 ⟨rfl, hbf⟩)
        subst h1
        clear hbf HBad
        skip
        go_wp2
        refine wp_region_held_drew (S := (fun wx : World => wx.cell? ((⟨b1, o1, s1⟩ : Addr).add (i * 6)) = some (.int .i64 x1) ∧ wx.cell? ⟨((⟨b1, o1, s1⟩ : Addr).add (i * 6)).block, ((⟨b1, o1, s1⟩ : Addr).add (i * 6)).off + 1, none⟩ = some (.int .i64 x2) ∧ wx.cell? ⟨((⟨b1, o1, s1⟩ : Addr).add (i * 6)).block, ((⟨b1, o1, s1⟩ : Addr).add (i * 6)).off + 2, none⟩ = some (.int .i64 x3) ∧ wx.cell? ⟨((⟨b1, o1, s1⟩ : Addr).add (i * 6)).block, ((⟨b1, o1, s1⟩ : Addr).add (i * 6)).off + 3, none⟩ = some (.int .i64 x4) ∧ wx.cell? ⟨((⟨b1, o1, s1⟩ : Addr).add (i * 6)).block, ((⟨b1, o1, s1⟩ : Addr).add (i * 6)).off + 4, none⟩ = some (.int .u64 x5) ∧ wx.cell? ⟨((⟨b1, o1, s1⟩ : Addr).add (i * 6)).block, ((⟨b1, o1, s1⟩ : Addr).add (i * 6)).off + 5, none⟩ = some (.string x6) ∧ wx.cell? ((⟨b2, o2, s2⟩ : Addr).add (i * 6)) = some (.int .i64 y1) ∧ wx.cell? ((⟨b3, o3, s3⟩ : Addr).add (i * 6)) = some (.int .i64 z1))) (by kernel_rfl) (⟨c0, c1, c2, c3, c4, c5, e0, f0⟩) (fun hHeld => ?_)
        refine wpAnyH_take (i := 0) (v := ?_) rfl (by kernel_rfl) (by kernel_rfl) (by kernel_rfl) (fun _ _ _ h => h) (Or.inl ⟨by kernel_rfl, ?_⟩) (by assumption) ?_
        rotate_left
        · (intro w hSw; (try dsimp only at hSw); go_simp); (try with_reducible rfl)
        (try simp only [Act.put, List.getElem_toArray, List.getElem_cons_zero, List.getElem_cons_succ, List.setIfInBounds_toArray, List.set_cons_zero, List.set_cons_succ])
        refine wpAnyH_take (i := 1) (v := ?_) rfl (by kernel_rfl) (by kernel_rfl) (by kernel_rfl) (fun _ _ _ h => h) (Or.inl ⟨by kernel_rfl, ?_⟩) (by assumption) ?_
        rotate_left
        · (intro w hSw; (try dsimp only at hSw); go_simp); (try with_reducible rfl)
        (try simp only [Act.put, List.getElem_toArray, List.getElem_cons_zero, List.getElem_cons_succ, List.setIfInBounds_toArray, List.set_cons_zero, List.set_cons_succ])
        refine wpAnyH_take (i := 2) (v := ?_) rfl (by kernel_rfl) (by kernel_rfl) (by kernel_rfl) (fun _ _ _ h => h) (Or.inl ⟨by kernel_rfl, ?_⟩) (by assumption) ?_
        rotate_left
        · (intro w hSw; (try dsimp only at hSw); go_simp); (try with_reducible rfl)
        (try simp only [Act.put, List.getElem_toArray, List.getElem_cons_zero, List.getElem_cons_succ, List.setIfInBounds_toArray, List.set_cons_zero, List.set_cons_succ])
        refine wpAnyH_take (i := 3) (v := ?_) rfl (by kernel_rfl) (by kernel_rfl) (by kernel_rfl) (fun _ _ _ h => h) (Or.inl ⟨by kernel_rfl, ?_⟩) (by assumption) ?_
        rotate_left
        · (intro w hSw; (try dsimp only at hSw); go_simp); (try with_reducible rfl)
        (try simp only [Act.put, List.getElem_toArray, List.getElem_cons_zero, List.getElem_cons_succ, List.setIfInBounds_toArray, List.set_cons_zero, List.set_cons_succ])
        refine wpAnyH_ready (rs := [4]) (by kernel_rfl) (by simp) ?_
        refine AllReadyH.cons rfl (fun K hK => ?_) AllReadyH.nil
        go_simp
        (go_at_call 54; refine (cR _).mono ?_; rintro e w6 ⟨rfl, k6⟩; have g0 := keep_cell k6 c0; have g1 := keep_cell k6 c1; have g2 := keep_cell k6 c2; have g3 := keep_cell k6 c3; have g4 := keep_cell k6 c4; have g5 := keep_cell k6 c5; have g6 := keep_cell k6 e0; have g7 := keep_cell k6 f0)
        first | (refine hK.out _ _ (⟨g0, g1, g2, g3, g4, g5, g6, g7⟩) (fun hHeld => ?_)) | (go_wp2_with fail; refine hK.out _ _ (⟨g0, g1, g2, g3, g4, g5, g6, g7⟩) (fun hHeld => ?_))
        clear hK K
        (try simp only [Act.put, List.getElem_toArray, List.getElem_cons_zero, List.getElem_cons_succ, List.setIfInBounds_toArray, List.set_cons_zero, List.set_cons_succ])
        refine wpAnyH_take (i := 5) (v := ?_) rfl (by kernel_rfl) (by kernel_rfl) (by kernel_rfl) (fun _ _ _ h => h) (Or.inl ⟨by kernel_rfl, ?_⟩) (by assumption) ?_
        rotate_left
        · (intro w hSw; (try dsimp only at hSw); go_simp); (try with_reducible rfl)
        (try simp only [Act.put, List.getElem_toArray, List.getElem_cons_zero, List.getElem_cons_succ, List.setIfInBounds_toArray, List.set_cons_zero, List.set_cons_succ])
        refine wpAnyH_take (i := 6) (v := undef) rfl (by kernel_rfl) (by kernel_rfl) (by kernel_rfl) (fun _ _ _ h => h) (Or.inr ⟨by kernel_rfl, rfl⟩) (by assumption) ?_
        (try simp only [Act.put, List.getElem_toArray, List.getElem_cons_zero, List.getElem_cons_succ, List.setIfInBounds_toArray, List.set_cons_zero, List.set_cons_succ])
        refine wpAnyH_take (i := 7) (v := undef) rfl (by kernel_rfl) (by kernel_rfl) (by kernel_rfl) (fun _ _ _ h => h) (Or.inr ⟨by kernel_rfl, rfl⟩) (by assumption) ?_
        (try simp only [Act.put, List.getElem_toArray, List.getElem_cons_zero, List.getElem_cons_succ, List.setIfInBounds_toArray, List.set_cons_zero, List.set_cons_succ])
        refine wpAnyH_take (i := 8) (v := undef) rfl (by kernel_rfl) (by kernel_rfl) (by kernel_rfl) (fun _ _ _ h => h) (Or.inr ⟨by kernel_rfl, rfl⟩) (by assumption) ?_
        (try simp only [Act.put, List.getElem_toArray, List.getElem_cons_zero, List.getElem_cons_succ, List.setIfInBounds_toArray, List.set_cons_zero, List.set_cons_succ])
        refine wpAnyH_take (i := 9) (v := undef) rfl (by kernel_rfl) (by kernel_rfl) (by kernel_rfl) (fun _ _ _ h => h) (Or.inr ⟨by kernel_rfl, rfl⟩) (by assumption) ?_
        (try simp only [Act.put, List.getElem_toArray, List.getElem_cons_zero, List.getElem_cons_succ, List.setIfInBounds_toArray, List.set_cons_zero, List.set_cons_succ])
        refine wpAnyH_take (i := 10) (v := undef) rfl (by kernel_rfl) (by kernel_rfl) (by kernel_rfl) (fun _ _ _ h => h) (Or.inr ⟨by kernel_rfl, rfl⟩) (by assumption) ?_
        (try simp only [Act.put, List.getElem_toArray, List.getElem_cons_zero, List.getElem_cons_succ, List.setIfInBounds_toArray, List.set_cons_zero, List.set_cons_succ])
        refine wpAnyH_take (i := 11) (v := undef) rfl (by kernel_rfl) (by kernel_rfl) (by kernel_rfl) (fun _ _ _ h => h) (Or.inr ⟨by kernel_rfl, rfl⟩) (by assumption) ?_
        (try simp only [Act.put, List.getElem_toArray, List.getElem_cons_zero, List.getElem_cons_succ, List.setIfInBounds_toArray, List.set_cons_zero, List.set_cons_succ])
        refine wpAnyH_take (i := 12) (v := undef) rfl (by kernel_rfl) (by kernel_rfl) (by kernel_rfl) (fun _ _ _ h => h) (Or.inr ⟨by kernel_rfl, rfl⟩) (by assumption) ?_
        (try simp only [Act.put, List.getElem_toArray, List.getElem_cons_zero, List.getElem_cons_succ, List.setIfInBounds_toArray, List.set_cons_zero, List.set_cons_succ])
        refine wpAnyH_take (i := 13) (v := undef) rfl (by kernel_rfl) (by kernel_rfl) (by kernel_rfl) (fun _ _ _ h => h) (Or.inr ⟨by kernel_rfl, rfl⟩) (by assumption) ?_
        (try simp only [Act.put, List.getElem_toArray, List.getElem_cons_zero, List.getElem_cons_succ, List.setIfInBounds_toArray, List.set_cons_zero, List.set_cons_succ])
        refine wpAnyH_take (i := 14) (v := undef) rfl (by kernel_rfl) (by kernel_rfl) (by kernel_rfl) (fun _ _ _ h => h) (Or.inr ⟨by kernel_rfl, rfl⟩) (by assumption) ?_
        (try simp only [Act.put, List.getElem_toArray, List.getElem_cons_zero, List.getElem_cons_succ, List.setIfInBounds_toArray, List.set_cons_zero, List.set_cons_succ])
        refine wpAnyH_take (i := 15) (v := undef) rfl (by kernel_rfl) (by kernel_rfl) (by kernel_rfl) (fun _ _ _ h => h) (Or.inr ⟨by kernel_rfl, rfl⟩) (by assumption) ?_
        (try simp only [Act.put, List.getElem_toArray, List.getElem_cons_zero, List.getElem_cons_succ, List.setIfInBounds_toArray, List.set_cons_zero, List.set_cons_succ])
        refine wpAnyH_take (i := 16) (v := undef) rfl (by kernel_rfl) (by kernel_rfl) (by kernel_rfl) (fun _ _ _ h => h) (Or.inr ⟨by kernel_rfl, rfl⟩) (by assumption) ?_
        (try simp only [Act.put, List.getElem_toArray, List.getElem_cons_zero, List.getElem_cons_succ, List.setIfInBounds_toArray, List.set_cons_zero, List.set_cons_succ])
        refine wpAnyH_take (i := 17) (v := ?_) rfl (by kernel_rfl) (by kernel_rfl) (by kernel_rfl) (fun _ _ _ h => h) (Or.inl ⟨by kernel_rfl, ?_⟩) (by assumption) ?_
        rotate_left
        · (intro w hSw; (try dsimp only at hSw); go_simp); (try with_reducible rfl)
        (try simp only [Act.put, List.getElem_toArray, List.getElem_cons_zero, List.getElem_cons_succ, List.setIfInBounds_toArray, List.set_cons_zero, List.set_cons_succ])
        refine wpAnyH_done (by kernel_rfl) ?_ _
        go_wp2
        go_step3
        have k7 : Keeps (fun _ => False) w' w6 := k6.of_drew
        rw [show ((i : Int) + 1) = ((i + 1 : Nat) : Int) by omega]
        exact ⟨rfl, a.length - (i + 1), by omega, i + 1, d1, d2, d3, d4, _, _, C3, _, _, rfl, by omega, HL.out, HE, alFrame_is .., hst, kp.trans k7, HR.out.1.old k7, HR.out.2.1.old k7, HR.out.2.2.old k7⟩
      · have hbf : bad (⟨x1, x2, x3, x4, x5, x6⟩, ⟨y1, y2, y3, y4, y5, y6⟩) (⟨x1, x2, x3, x4, x5, x6⟩, ⟨z1, z2, z3, z4, z5, z6⟩) = false := by
          rw [HBad.out]; rw [h2]; simp
        have hst := Hid.of (upto_step (R := fun p q => p.1 = q.1 ∧ bad p q = false) hT.out HG.out.1 HG.out.2 ⟨rfl, hbf⟩)
        subst h1
        clear hbf HBad
        have h4 : (y1 != z1) = false := by simpa using h2
        clear h2
        go_wp2
        go_region_held3 (fun wx : World => wx.cell? ((⟨b1, o1, s1⟩ : Addr).add (i * 6)) = some (.int .i64 x1) ∧ wx.cell? ⟨((⟨b1, o1, s1⟩ : Addr).add (i * 6)).block, ((⟨b1, o1, s1⟩ : Addr).add (i * 6)).off + 1, none⟩ = some (.int .i64 x2) ∧ wx.cell? ⟨((⟨b1, o1, s1⟩ : Addr).add (i * 6)).block, ((⟨b1, o1, s1⟩ : Addr).add (i * 6)).off + 2, none⟩ = some (.int .i64 x3) ∧ wx.cell? ⟨((⟨b1, o1, s1⟩ : Addr).add (i * 6)).block, ((⟨b1, o1, s1⟩ : Addr).add (i * 6)).off + 3, none⟩ = some (.int .i64 x4) ∧ wx.cell? ⟨((⟨b1, o1, s1⟩ : Addr).add (i * 6)).block, ((⟨b1, o1, s1⟩ : Addr).add (i * 6)).off + 4, none⟩ = some (.int .u64 x5) ∧ wx.cell? ⟨((⟨b1, o1, s1⟩ : Addr).add (i * 6)).block, ((⟨b1, o1, s1⟩ : Addr).add (i * 6)).off + 5, none⟩ = some (.string x6) ∧ wx.cell? ((⟨b2, o2, s2⟩ : Addr).add (i * 6)) = some (.int .i64 y1) ∧ wx.cell? ((⟨b3, o3, s3⟩ : Addr).add (i * 6)) = some (.int .i64 z1))
          (first | exact ⟨c0, c1, c2, c3, c4, c5, e0, f0⟩ | exact ⟨g0, g1, g2, g3, g4, g5, g6, g7⟩)
          (first | (go_at_call 54; refine (cR _).mono ?_; rintro e w6 ⟨rfl, k6⟩; have g0 := keep_cell k6 c0; have g1 := keep_cell k6 c1; have g2 := keep_cell k6 c2; have g3 := keep_cell k6 c3; have g4 := keep_cell k6 c4; have g5 := keep_cell k6 c5; have g6 := keep_cell k6 e0; have g7 := keep_cell k6 f0))
        go_wp2
        go_step3
        have k7 : Keeps (fun _ => False) w' w6 := k6.of_drew
        rw [show ((i : Int) + 1) = ((i + 1 : Nat) : Int) by omega]
        exact ⟨rfl, a.length - (i + 1), by omega, i + 1, d1, d2, d3, d4, _, _, C3, _, _, rfl, by omega, HL.out, HE, alFrame_is .., hst, kp.trans k7, HR.out.1.old k7, HR.out.2.1.old k7, HR.out.2.2.old k7⟩
      · subst h1
        have h4 : (y1 != z1) = true := by simpa using h2
        have hrt : r = false := by
          cases r with
          | false => rfl
          | true =>
            have := ((HI.out.1 rfl).2 i _ _ HG.out.1 HG.out.2).2
            rw [HBad.out, h4] at this
            simp at this
        subst hrt
        clear h2
        go_wp2
        go_region_held3 (fun wx : World => wx.cell? ((⟨b1, o1, s1⟩ : Addr).add (i * 6)) = some (.int .i64 x1) ∧ wx.cell? ⟨((⟨b1, o1, s1⟩ : Addr).add (i * 6)).block, ((⟨b1, o1, s1⟩ : Addr).add (i * 6)).off + 1, none⟩ = some (.int .i64 x2) ∧ wx.cell? ⟨((⟨b1, o1, s1⟩ : Addr).add (i * 6)).block, ((⟨b1, o1, s1⟩ : Addr).add (i * 6)).off + 2, none⟩ = some (.int .i64 x3) ∧ wx.cell? ⟨((⟨b1, o1, s1⟩ : Addr).add (i * 6)).block, ((⟨b1, o1, s1⟩ : Addr).add (i * 6)).off + 3, none⟩ = some (.int .i64 x4) ∧ wx.cell? ⟨((⟨b1, o1, s1⟩ : Addr).add (i * 6)).block, ((⟨b1, o1, s1⟩ : Addr).add (i * 6)).off + 4, none⟩ = some (.int .u64 x5) ∧ wx.cell? ⟨((⟨b1, o1, s1⟩ : Addr).add (i * 6)).block, ((⟨b1, o1, s1⟩ : Addr).add (i * 6)).off + 5, none⟩ = some (.string x6) ∧ wx.cell? ((⟨b2, o2, s2⟩ : Addr).add (i * 6)) = some (.int .i64 y1) ∧ wx.cell? ((⟨b3, o3, s3⟩ : Addr).add (i * 6)) = some (.int .i64 z1))
          (first | exact ⟨c0, c1, c2, c3, c4, c5, e0, f0⟩ | exact ⟨g0, g1, g2, g3, g4, g5, g6, g7⟩)
          (first | (go_at_call 54; refine (cR _).mono ?_; rintro e w6 ⟨rfl, k6⟩; have g0 := keep_cell k6 c0; have g1 := keep_cell k6 c1; have g2 := keep_cell k6 c2; have g3 := keep_cell k6 c3; have g4 := keep_cell k6 c4; have g5 := keep_cell k6 c5; have g6 := keep_cell k6 e0; have g7 := keep_cell k6 f0))
        go_wp2
        simp only [Exit.jump]
        go_ret
        exact ⟨rfl, kp.trans k6.of_drew⟩
    · have hie : i = a.length := by omega
      have hi1 : ((i : Int) == a.length) = true := by simp; omega
      have hrt : r = true := by
        rw [HI.out]
        refine ⟨HL.out, fun j p q hp hq => hT.out j p q ?_ hp hq⟩
        have := (List.getElem?_eq_some_iff.1 hp).1
        omega
      subst hrt
      clear hie hlen
      go_wp2
      simp only [Exit.jump]
      go_ret
      exact ⟨rfl, kp⟩
  · intro hr
    have HH := Hid.of hr
    clear hr
    go_wp2_with fail
    refine q1.mono ?_
    rintro e w1 ⟨v1, rfl, o1, k1⟩
    go_wp2_with fail
    refine (q2 w1 k1).mono ?_
    rintro e w2 ⟨v2, rfl, o2, k2⟩
    have k02 := k1.trans k2
    go_wp2_with fail
    refine (q3 w2 k02).mono ?_
    rintro e w3 ⟨v3, rfl, o3, k3⟩
    have k03 := k02.trans k3
    go_wp2_with fail
    refine (q4 w3 k03).mono ?_
    rintro e w4 ⟨v4, rfl, o4, k4⟩
    have k04 := k03.trans k4
    have p1 := ((o1.old k2).old k3).old k4
    have p2 := (o2.old k3).old k4
    have p3 := o3.old k4
    clear o1 o2 o3 q1 q2 q3 q4 k1 k2 k3 k4 k02 k03 m1 m2 sl1 sl2 sl3 sl4
    obtain ⟨C1, d1, rfl, -, -, r1⟩ := p1.rd
    obtain ⟨C2, d2, rfl, -, -, r2⟩ := p2.rd
    obtain ⟨C3, d3, rfl, -, -, r3⟩ := p3.rd
    obtain ⟨C4, d4, rfl, -, -, r4⟩ := o4.rd
    clear p1 p2 p3 o4
    have q5 := equal_any w4 C1 C3 d1 d3 (a.map (·.1)) (b.map (·.1)) a.length b.length r1 r3 (by simp) (by simp) hla hlb
    by_cases hE : a.map (·.1) = b.map (·.1)
    · rw [decide_eq_true hE] at q5
      have hlen : a.length = b.length := by have := congrArg List.length hE; simpa using this
      have HE := Hid.of hE
      clear hE
      rw [← hlen] at q5
      rw [← hlen]
      have HL := Hid.of hlen
      clear hlen
      go_wp2_with fail
      refine q5.mono ?_
      rintro e w5 ⟨rfl, k5⟩
      go_wp2
      go_step3
      refine (by assumption : ∀ (a : Act) (w : World), Code.wp _ _ _ a w → _) _ _ ?_
      exact HH.out _ _ _ ⟨0, d1, d2, d3, d4, C1, C2, C3, C4, _, rfl, Nat.zero_le _, HL.out, HE, alFrame_is .., Hid.of (fun i' p q h => by omega), k04.trans k5, r1.old k5, r2.old k5, r4.old k5⟩
    · rw [decide_eq_false hE] at q5
      have hr : r = false := by
        cases r with
        | false => rfl
        | true => exact absurd (HF.out rfl) hE
      subst hr
      clear hE
      go_wp2_with fail
      refine q5.mono ?_
      rintro e w5 ⟨rfl, k5⟩
      go_wp2
      simp only [Exit.jump]
      go_ret
      exact ⟨rfl, k04.trans k5⟩
end Proj
end Go.Proofs.Ytmlolkjgniodpaa
