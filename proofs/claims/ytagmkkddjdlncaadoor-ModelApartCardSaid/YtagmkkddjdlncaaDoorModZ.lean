/- What others do is nothing to a tenant's part: the plain law; three models side by side. | ModelApart's walk. -/
import Derived.Test.YtagmkkddjdlncaaDoorModY
set_option linter.unusedVariables false
set_option linter.unusedSimpArgs false
/-! The plain law; three models side by side; rows of operations cut off in front. -/
namespace Go.Proofs.YtagmkkddjdlncaaDoor
open Go.RowKit Go.ChangeMaps
namespace Mo
theorem mdo_al {A B : MM} {o : XOp} {id : Nat} (hid : id < 8) (ht : o.tenant = id) (h1 : o.kind ≠ 1) (h2 : o.kind ≠ 2) (h : A.T id = B.T id) : (mdo A o).1 = (mdo B o).1 ∧ (mdo A o).2.T id = (mdo B o).2.T id := by
  unfold mdo
  by_cases hc : Op1.chk o ≠ 0
  · rw [if_pos hc, if_pos hc]; exact ⟨rfl, h⟩
  · rw [if_neg hc, if_neg hc]
    have hi : o.tenant.toNat = id := by omega
    rw [hi]
    have key : ∀ kind n m hh d, kind ≠ 1 → kind ≠ 2 → (act A id kind n m hh d).1 = (act B id kind n m hh d).1 ∧ (act A id kind n m hh d).2.T id = (act B id kind n m hh d).2.T id := by
      intro kind n m hh d k1 k2
      unfold act
      rw [if_neg k1, if_neg k1, if_neg k2, if_neg k2]
      by_cases k3 : kind = 3
      · rw [if_pos k3, if_pos k3]
        unfold destroy
        rw [← h]
        cases hP : A.T id with
        | none => exact ⟨rfl, by show A.T id = B.T id; exact h⟩
        | some P => exact ⟨rfl, by simp [upd]⟩
      · rw [if_neg k3, if_neg k3, ← h]
        cases hP : A.T id with
        | none => exact ⟨rfl, h⟩
        | some P => exact ⟨rfl, by simp [upd]⟩
    obtain ⟨e1, e2⟩ := key o.kind o.n o.m o.handle.toNat o.data.data.toList h1 h2
    refine ⟨?_, e2⟩
    dsimp only
    rw [e1]
    unfold charged
    rw [e2]
theorem mdo_other {B : MM} {o : XOp} {id : Nat} (ht : o.tenant ≠ id) (h1 : o.kind ≠ 1) (h2 : o.kind ≠ 2) : (mdo B o).2.T id = B.T id := by
  unfold mdo
  by_cases hc : Op1.chk o ≠ 0
  · rw [if_pos hc]
  · rw [if_neg hc]
    have hk := chk_ok (o := o) (by simpa using hc)
    have hi : id ≠ o.tenant.toNat := by omega
    dsimp only
    unfold act
    rw [if_neg h1, if_neg h2]
    split
    · unfold destroy
      cases hP : B.T o.tenant.toNat with
      | none => rfl
      | some P => simp [upd, hi]
    · cases hP : B.T o.tenant.toNat with
      | none => rfl
      | some P => simp [upd, hi]
/-- Three models of the call's own. -/
structure Tri (w0 w : World) (m : Nat) (M : MM) (p : Pls) (a : Nat) (A : MM) (pa : Pls) (b : Nat) (B : MM) (pb : Pls) : Prop where
  ma : Two w0 w m M p a A pa
  mb : Two w0 w m M p b B pb
  ab : Two w0 w a A pa b B pb
theorem Two.keep {w0 w w' : World} {m d : Nat} {M D : MM} {p q : Pls} {F : Nat → Prop} (h : Two w0 w m M p d D q) (K : Keeps F w w') (h1 : ∀ x, MFp m M p x → ¬ F x) (h2 : ∀ x, MFp d D q x → ¬ F x) (k0 : Keeps (fun _ => False) w0 w') : Two w0 w' m M p d D q :=
  ⟨h.1.beside K h1 k0, h.2.1.beside K h2 k0, h.2.2⟩
/-- What a step of a model leaves, its places named. -/
structure MRg (w : World) (m : Nat) (M : MM) (p : Pls) (M' : MM) (p' : Pls) (w' : World) : Prop where
  at' : MAt w' m M' p'
  keeps : Keeps (MFp m M p) w w'
  foot : ∀ x, MFp m M' p' x → MFp m M p x ∨ w.heap.size ≤ x
theorem MR.g {w w' : World} {m : Nat} {M M' : MM} {p : Pls} (h : MR w m M p M' w') : ∃ p', MRg w m M p M' p' w' := by
  obtain ⟨p', a, k, f⟩ := h
  exact ⟨p', a, k, f⟩
theorem MRg.k0 {w0 w w' : World} {m : Nat} {M M' : MM} {p p' : Pls} (g : MRg w m M p M' p' w') (h : MN w0 m M p w) : Keeps (fun _ => False) w0 w' := h.keeps.trans' g.keeps (fun x hx hl => by have := h.fresh x hx; omega)
theorem Two.right_at {w0 w w' : World} {m d : Nat} {M D D' : MM} {p q q' : Pls} (h : Two w0 w m M p d D q) (g : MRg w d D q D' q' w') : Two w0 w' m M p d D' q' := by
  have k0 := g.k0 h.2.1
  refine ⟨h.1.beside g.keeps (fun x hx hd => h.2.2 x hx hd) k0, ⟨g.at', k0, fun x hx => ?_⟩, fun x hx hd => ?_⟩
  · rcases g.foot x hx with h1 | h1
    · exact h.2.1.fresh x h1
    · exact Nat.le_trans h.1.keeps.size h1
  · rcases g.foot x hd with h1 | h1
    · exact h.2.2 x hx h1
    · have := h.1.at'.lt hx; omega
theorem Two.left_at {w0 w w' : World} {m d : Nat} {M M' D : MM} {p p' q : Pls} (h : Two w0 w m M p d D q) (g : MRg w m M p M' p' w') : Two w0 w' m M' p' d D q := (h.swap.right_at g).swap
theorem Tri.old {w0 w w' : World} {m a b : Nat} {M A B : MM} {p pa pb : Pls} (h : Tri w0 w m M p a A pa b B pb) (k : Keeps (fun _ => False) w w') : Tri w0 w' m M p a A pa b B pb := ⟨h.ma.old k, h.mb.old k, h.ab.old k⟩
theorem Tri.b {w0 w w' : World} {m a b : Nat} {M A B B' : MM} {p pa pb pb' : Pls} (h : Tri w0 w m M p a A pa b B pb) (g : MRg w b B pb B' pb' w') : Tri w0 w' m M p a A pa b B' pb' :=
  ⟨h.ma.keep g.keeps (fun x hx hb => h.mb.2.2 x hx hb) (fun x hx hb => h.ab.2.2 x hx hb) (g.k0 h.ab.2.1), h.mb.right_at g, h.ab.right_at g⟩
theorem Tri.a {w0 w w' : World} {m a b : Nat} {M A A' B : MM} {p pa pa' pb : Pls} (h : Tri w0 w m M p a A pa b B pb) (g : MRg w a A pa A' pa' w') : Tri w0 w' m M p a A' pa' b B pb :=
  ⟨h.ma.right_at g, h.mb.keep g.keeps (fun x hx hb => h.ma.2.2 x hx hb) (fun x hx hb => h.ab.2.2 x hb hx) (g.k0 h.ab.1), h.ab.left_at g⟩
theorem Two.tri {w0 w w' : World} {m a c : Nat} {M : MM} {p pa p' : Pls} {A : MM} (h : Two w0 w m M p a A pa) (C : MAt w' c M p') (fr : ∀ x, MFp c M p' x → w.heap.size ≤ x) (k : Keeps (fun _ => False) w w') : Tri w0 w' m M p a A pa c M p' := by
  have h1 := h.1.copied C fr k
  exact ⟨h.old k, h1, (h.2.1.old k), h1.2.1, fun x hx hc => by have := h.2.1.at'.lt hx; have := fr x hc; omega⟩
/-- A row of the call's own that no model holds. -/
def RB (w : World) (A : Option Addr) (F : Nat → Prop) : Prop := ∀ ad, A = some ad → ad.block < w.heap.size ∧ ¬ F ad.block
theorem id_mod (x : Int) : ∃ o : Nat, wrap64 ((IntKind.u64.wrap x).tmod 8) = o ∧ o < 8 := by
  have h : 0 ≤ IntKind.u64.wrap x := by
    have e : IntKind.u64.wrap x = x % 18446744073709551616 := by simp [IntKind.wrap, IntKind.signed, IntKind.bits]
    omega
  refine ⟨((IntKind.u64.wrap x).tmod 8).toNat, ?_, ?_⟩
  · rw [Int.tmod_eq_emod_of_nonneg h]; unfold wrap64; omega
  · rw [Int.tmod_eq_emod_of_nonneg h]; omega
theorem Rd_dropG {w : World} {ad : Addr} {xs : List Value} (h : Rd w (some ad) xs) (n : Nat) : Rd w (some (ad.add n)) (xs.drop n) := by
  intro j u hu
  rw [List.getElem?_drop] at hu
  obtain ⟨a', e, hc⟩ := h _ u hu
  cases e
  exact ⟨_, rfl, by rw [Addr.add_add]; exact hc⟩
theorem sl_ops_from (w0 : World) (A : Option Addr) (n i cap : Nat) (hi : i ≤ n) (hn : n ≤ cap) (cs : List Value) (hl : cs.length = n * 6) (hA : A = none → n = 0 ∧ cap = 0) (hr : Rd w0 A cs) :
    ∃ A2, (∀ w, (Instr.slice 24 (.slice A n cap) (some (.int .i64 i)) none none).run Tryd.prog w = .ok (.slice A2 (n - i) (cap - i)) w) ∧ (∀ w, (Instr.sliceAt 24 (.slice A n cap) (some (.int .i64 i)) none none).run Tryd.prog w = .ok (.slice A2 (n - i) (cap - i)) w) ∧
      Rd w0 A2 (cs.drop (i * 6)) := by
  have he : Tryd.prog.elem 24 = 34 := by simp [Program.elem, Tryd.underlying24]
  have ht : Tryd.prog.underlying 24 = some (.slice (Tryd.prog.elem 24)) := by rw [he]; exact Tryd.underlying24
  have hsz : ∀ w, (sizeOf 34).run Tryd.prog w = .ok 6 w := fun w => by kernel_rfl
  have h1 : ∀ w, (Instr.slice 24 (.slice A n cap) (some (.int .i64 i)) none none).run Tryd.prog w = .ok (.slice (if cap = i then A else A.map (·.add (i * 6))) (n - i) (cap - i)) w := by
    intro w
    rw [run_slice_l w _ A n cap ht .i64 i (by omega) (by omega), he, hsz]
    rfl
  refine ⟨_, h1, fun w => ?_, ?_⟩
  · rw [run_sliceAt_slice w _ _ _ _ _ ht]; exact h1 w
  · split
    · rename_i e
      have : i = n := by omega
      subst this
      rw [List.drop_eq_nil_of_le (by omega)]
      exact Rd.nil _ _
    · rename_i e
      cases A with
      | none => have := hA rfl; omega
      | some a => exact Rd_dropG hr _
theorem gops_drop (xs : List GOp) : ∀ i, (gops xs).drop (i * 6) = gops (xs.drop i) := by
  induction xs with
  | nil => intro i; simp [gops]
  | cons x l ih =>
    intro i
    cases i with
    | zero => simp
    | succ i =>
      have : (i + 1) * 6 = 6 + i * 6 := by omega
      rw [this, ← List.drop_drop]
      show ((x.enc ++ gops l).drop 6).drop (i * 6) = _
      rw [show (x.enc ++ gops l).drop 6 = gops l from by simp [GOp.enc]]
      rw [ih]; rfl
theorem gops_len (xs : List GOp) : (gops xs).length = xs.length * 6 := by
  induction xs with
  | nil => rfl
  | cons x l ih => show (x.enc ++ gops l).length = _; rw [List.length_append, ih]; simp [GOp.enc]; omega
theorem gops_snoc (L : List GOp) (x : GOp) : gops (L ++ [x]) = gops L ++ x.enc := by simp [gops]
theorem gops_cap {w : World} {n : Nat} {A : Option Addr} {len cap : Nat} (h : Leaf.ok w (n + 2) (.sl 6 [.int .i64, .int .i64, .int .i64, .int .i64, .int .u64, .str]) (.slice A len cap)) : len ≤ cap := by
  obtain ⟨A', len', cap', hv', hlc, hcm, hn, _⟩ := h
  injection hv' with e1 e2 e3
  omega
end Mo
end Go.Proofs.YtagmkkddjdlncaaDoor

/-! ModelApart's walk. -/
namespace Go.Proofs.YtagmkkddjdlncaaDoor
open Go.RowKit Go.ChangeMaps
attribute [-go_sem] run_neq_struct run_eql_struct run_equalIn_agg
namespace Mo
set_option maxRecDepth 100000 in
set_option maxHeartbeats 600000 in
theorem apartLaw_any (w : World) (Pg C : Int) (A : Option Addr) (ca : Nat) (xs : List GOp) (La : Nat) (idv : Int) (hLa : xs.length = La) (hcap : La ≤ ca) (hA0 : A = none → La = 0 ∧ ca = 0) (ra : Rd w A (gops xs)) (oka : ∀ x ∈ xs, x.Ok) (hla : xs.length ≤ maxLen) (hT : Sh.Tab w) :
    Calls Tryd.prog 3 #[.agg #[.int .i64 Pg, .int .i64 C], .slice A La ca, .int .i64 idv] w fun e w' => e = .returned (.bool true) ∧ Keeps (fun _ => False) w w' := by
  obtain ⟨o, ho, ho8⟩ := id_mod idv
  obtain ⟨cb0, hcb⟩ : ∃ cb, w.heap.size = cb := ⟨_, rfl⟩
  obtain ⟨w1, hw1, k1, b1⟩ := alloc6 w #[.int .i64 Pg, .int .i64 C] 23
  rw [hcb] at b1
  have qa := fun wx (k : Keeps (fun _ => False) w wx) => awake_any wx (hT.old k)
  have c0 := cell_of (v := .int .i64 Pg) b1 0 rfl
  have c1 := cell_of (v := .int .i64 C) b1 1 rfl
  have HK1 := Hid.of (And.intro k1 b1)
  have HA := Hid.of (And.intro hLa (And.intro ra (And.intro oka hla)))
  have HCP := Hid.of (And.intro hcap hA0)
  have HT := Hid.of hT
  clear k1 b1 hT ra oka hla hLa hcap hA0
  by_cases hc : cfg Pg C
  case neg =>
    have qn := new_bad w1 Pg C hc
    clear hc
    go_enter Tryd.func3, Tryd.ntmps3
    go_wp2_with fail
    refine qn.mono ?_
    rintro e w2 ⟨rfl, k2⟩
    have HK2 := Hid.of (HK1.out.1.trans k2)
    clear qn k2 c0 c1
    go_wp2_with fail
    refine (qa w2 HK2.out).mono ?_
    rintro e w3 ⟨rfl, k3⟩
    have HK3 := Hid.of (HK2.out.trans k3)
    clear k3 HK2
    go_wp2_with fail
    refine (qa w3 HK3.out).mono ?_
    rintro e w4 ⟨rfl, k4⟩
    have HK4 := Hid.of (HK3.out.trans k4)
    clear k4 HK3 qa
    go_wp2
    go_ret
    exact ⟨rfl, HK4.out⟩
  case pos =>
    have qn := new_any w1 Pg C hc
    unfold NewR at qn
    have hc' := hc
    obtain ⟨hc1, hc2, hc3, hc4, -⟩ := hc'
    obtain ⟨Pn, rfl⟩ : ∃ n : Nat, Pg = n := ⟨Pg.toNat, by omega⟩
    obtain ⟨Cn, rfl⟩ : ∃ n : Nat, C = n := ⟨C.toNat, by omega⟩
    have HC := Hid.of hc
    clear hc hc1 hc2 hc3 hc4
    go_enter Tryd.func3, Tryd.ntmps3
    go_wp2_with fail
    clear ho
    refine qn.mono ?_
    rintro e w2 ⟨m, rfl, hm, h0, k2⟩
    have b2 := k2.at HK1.out.2 (fun x => x)
    obtain ⟨p, N2⟩ : ∃ p, Hid (MN w m (new Pn Cn) p w2) := ⟨_, Hid.of (MN.new hm (Nat.le_trans HK1.out.1.size h0) (HK1.out.1.trans k2) HT.out)⟩
    have OK0 := Hid.of (MOk.new HC.out)
    have HK2 := Hid.of (And.intro (HK1.out.1.trans k2) b2)
    clear qn hm h0 k2 b2 c0 c1 HK1
    go_wp2_with fail
    refine (qa w2 HK2.out.1).mono ?_
    rintro e w3 ⟨rfl, k3⟩
    have N3 := Hid.of (N2.out.old k3)
    have b3 := k3.at HK2.out.2 (fun x => x)
    have c0 := cell_of (v := .int .i64 (Pn : Int)) b3 0 rfl
    have c1 := cell_of (v := .int .i64 (Cn : Int)) b3 1 rfl
    have HK3 := Hid.of (And.intro (HK2.out.1.trans k3) b3)
    clear k3 b3 N2 HK2
    have ql := long_any w3 Pn Cn A ca xs La 200 HA.out.1 (HA.out.2.1.old HK3.out.1) HA.out.2.2.1 HA.out.2.2.2 (by omega)
    unfold LongR at ql
    go_wp2_with fail
    refine ql.mono ?_
    rintro e w4 ⟨r1, rfl, k4, hr1⟩
    have N4 := Hid.of (N3.out.old k4)
    have HK4 := Hid.of (And.intro (HK3.out.1.trans k4) (k4.at HK3.out.2 (fun x => x)))
    clear ql k4 N3 HK3 c0 c1
    cases r1
    case true =>
      clear hr1
      go_wp2_with fail
      refine (qa w4 HK4.out.1).mono ?_
      rintro e w5 ⟨rfl, k5⟩
      have HK5 := Hid.of (HK4.out.1.trans k5)
      clear k5 HK4 qa
      go_wp2
      go_ret
      exact ⟨rfl, HK5.out⟩
    case false =>
      have HX := Hid.of (hr1 rfl)
      clear hr1 HK4 qa
      go_wp2
      go_loopw [42] (fun i wr => ∃ (k : Nat) (M : MM) (p : Pls), k ≤ La ∧ i = .int .i64 k ∧ Hid (MN w m M p wr ∧ MOk M)) (fun i _ => La - (intOf i).toNat)
      case atStart => exact ⟨0, _, p, by omega, rfl, Hid.of ⟨N4.out, OK0.out⟩⟩
      case round =>
        clear N4 OK0
        obtain ⟨k, M, p, hk, rfl, HI⟩ := hrel
        have hLa : La ≤ 200 := by have := HX.out.1; have := HA.out.1; omega
        by_cases hlt : k < La
        · obtain ⟨b, o', s, kk, t, n, mm, hh, d, hg, hA, z0, z1, z2, z3, z4, z5⟩ := rgop (HA.out.2.1.old HI.out.1.keeps) k (by rw [HA.out.1]; exact hlt)
          have HR := Hid.of (HA.out.2.1.old HI.out.1.keeps)
          have hkd : decide ((k : Int) < (La : Int)) = true := by simp; omega
          obtain ⟨w6, hw6, k6, b6⟩ := alloc6 wr #[.int .i64 kk, .int .i64 t, .int .i64 n, .int .i64 mm, .int .u64 hh, .string (bs d)] 34
          obtain ⟨ob, hob⟩ : ∃ ob, wr.heap.size = ob := ⟨_, rfl⟩
          rw [hob] at b6
          obtain ⟨⟨y0, y1, y2, y3, y4, y5⟩, -⟩ := six_cells b6
          have okx := HA.out.2.2.1 _ (List.mem_of_getElem? hg)
          have hdl : d.length ≤ 1000000000 := by have : d.length ≤ 128 * 200 + 15 := HX.out.2 _ (List.mem_of_getElem? hg); omega
          have N6 := Hid.of (HI.out.1.old k6)
          have OK6 := Hid.of HI.out.2
          have HOP := Hid.of (And.intro okx (And.intro hdl (And.intro b6 (show ¬ MFp m M p ob from fun hx => by have := HI.out.1.at'.lt hx; omega))))
          obtain ⟨A2, ss1, ss2, rs⟩ := sl_ops_from wr A La k ca (by omega) HCP.out.1 (gops xs) (by rw [gops_len, HA.out.1]) HCP.out.2 HR.out
          rw [gops_drop] at rs
          have HRS := Hid.of (rs.old k6)
          have hmem : ∀ x ∈ xs.drop k, x ∈ xs := fun x hx => List.mem_of_mem_drop hx
          obtain ⟨Ld, hLd⟩ : ∃ Ld, La - k = Ld := ⟨_, rfl⟩
          rw [hLd] at ss1 ss2
          have hLd2 : (xs.drop k).length = Ld := by rw [List.length_drop, HA.out.1]; exact hLd
          have hLd3 : Ld ≤ 200 := by have := HX.out.1; have := HA.out.1; omega
          have HD := Hid.of (And.intro hmem (And.intro hLd2 hLd3))
          subst hA
          clear k6 okx hdl b6 hg HI rs hmem hLd2 hLd3 hLd
          by_cases h1 : kk = 1
          case pos =>
            have e1 : (kk == 1) = true := by simpa using h1
            have q := mdo_any' w6 m M p kk t n mm hh d N6.out.at' OK6.out (N6.out.tab HT.out) HOP.out.1.h HOP.out.2.1 HOP.out.1.n HOP.out.1.m
            have OK7 := Hid.of (OK6.out.mdo ⟨kk, t, n, mm, hh, bs d⟩)
            generalize (mdo M ⟨kk, t, n, mm, hh, bs d⟩).2 = M' at q OK7
            generalize (mdo M ⟨kk, t, n, mm, hh, bs d⟩).1 = a at q
            obtain ⟨ae, ah, aa, an, ad, ac⟩ := a
            unfold MDoR XAns.enc at q
            dsimp only at q
            clear h1 HOP OK6 HRS HD
            go_wp2_with fail
            refine q.mono ?_
            rintro e w7 ⟨rfl, r⟩
            obtain ⟨p7, N7, -, -⟩ := N6.out.step r
            have HN7 := Hid.of (And.intro N7 OK7.out)
            clear q r N7 N6
            go_wp2
            go_roundw
            case rel => exact ⟨k + 1, M', p7, by omega, by go_num, HN7⟩
            case measure => simp [intOf]; omega
          case neg =>
          by_cases h2 : kk = 2
          case pos =>
            have e1 : (kk == 1) = false := by simpa using h1
            have e2 : (kk == 2) = true := by simpa using h2
            have q := mdo_any' w6 m M p kk t n mm hh d N6.out.at' OK6.out (N6.out.tab HT.out) HOP.out.1.h HOP.out.2.1 HOP.out.1.n HOP.out.1.m
            have OK7 := Hid.of (OK6.out.mdo ⟨kk, t, n, mm, hh, bs d⟩)
            generalize (mdo M ⟨kk, t, n, mm, hh, bs d⟩).2 = M' at q OK7
            generalize (mdo M ⟨kk, t, n, mm, hh, bs d⟩).1 = a at q
            obtain ⟨ae, ah, aa, an, ad, ac⟩ := a
            unfold MDoR XAns.enc at q
            dsimp only at q
            clear h1 h2 HOP OK6 HRS HD
            go_wp2_with fail
            refine q.mono ?_
            rintro e w7 ⟨rfl, r⟩
            obtain ⟨p7, N7, -, -⟩ := N6.out.step r
            have HN7 := Hid.of (And.intro N7 OK7.out)
            clear q r N7 N6
            go_wp2
            go_roundw
            case rel => exact ⟨k + 1, M', p7, by omega, by go_num, HN7⟩
            case measure => simp [intOf]; omega
          case neg =>
          have e1 : (kk == 1) = false := by simpa using h1
          have e2 : (kk == 2) = false := by simpa using h2
          clear h1 h2
          go_wp2
          go_loopw [11, 62] (fun v i wr => ∃ (j : Nat) (L : List GOp), j ≤ Ld ∧ i = .int .i64 j ∧ Hid (Keeps (fun _ => False) w6 wr ∧ OutR 34 6 w6.heap.size wr v L.length (gops L) ∧ L.length ≤ j ∧ ∀ x ∈ L, x ∈ xs ∧ x.kind ≠ 1 ∧ x.kind ≠ 2)) (fun v i _ => Ld - (intOf i).toNat)
          case atStart => exact ⟨0, [], by omega, rfl, Hid.of ⟨Keeps.refl _ _, OutR.nil _ _ _ _, by simp, by simp⟩⟩
          case round =>
            obtain ⟨j, L, hj, rfl, HL⟩ := hrel
            have hLd9 : Ld ≤ 200 := HD.out.2.2
            rcases Nat.lt_or_ge j Ld with hlt2 | hge
            case' inl =>
              obtain ⟨b2, o2, s2, kk2, t2, n2, m2, h2, d2, hg2, hA2, x0, x1, x2, x3, x4, x5⟩ := rgop (HRS.out.old HL.out.1) j (by rw [HD.out.2.1]; exact hlt2)
              have hkd2 : decide ((j : Int) < (Ld : Int)) = true := by simp; omega
              obtain ⟨w9, hw9, k9, b9⟩ := alloc6 wr #[.int .i64 kk2, .int .i64 t2, .int .i64 n2, .int .i64 m2, .int .u64 h2, .string (bs d2)] 34
              obtain ⟨ob2, hob2⟩ : ∃ ob, wr.heap.size = ob := ⟨_, rfl⟩
              rw [hob2] at b9
              obtain ⟨⟨v0, v1, v2, v3, v4, v5⟩, -⟩ := six_cells b9
              have HG2 := Hid.of hg2
              have HL9 := Hid.of (And.intro (HL.out.1.trans k9) (And.intro (HL.out.2.1.old k9) HL.out.2.2))
              subst hA2
              clear k9 b9 hg2 HL
              by_cases hk1 : kk2 = 1
              case' pos =>
                have f1 : (kk2 == 1) = true := by simpa using hk1
                clear hk1 HG2
                go_wp2_with fail
              case' neg =>
                have f1 : (kk2 == 1) = false := by simpa using hk1
                by_cases hk2 : kk2 = 2
                case' pos =>
                  have f2 : (kk2 == 2) = true := by simpa using hk2
                  clear hk1 hk2 HG2
                  go_wp2_with fail
                case' neg =>
                  have f2 : (kk2 == 2) = false := by simpa using hk2
                  have o91 := HL9.out.2.1.1
                  have HK := Hid.of (And.intro hk1 hk2)
                  clear hk1 hk2
                  go_wp2_with (at_builtin; refine wpList_app1 slOps w9 rfl _ _ rfl u11 L.length (gops L) rfl o91 [.int .i64 kk2, .int .i64 t2, .int .i64 n2, .int .i64 m2, .int .u64 h2, .string (bs d2)] rfl rfl (by simp [Value.oneCell']) (by unfold maxLen; have := HL9.out.2.2.1; have := HD.out.2.2; omega) (by have := HL9.out.2.2.1; have := HD.out.2.2; omega) ?_; intro v' w10 o10 k10 at10)
                  have HF := Hid.of (show Keeps (fun _ => False) w6 w10 ∧ OutR 34 6 w6.heap.size w10 v' (L ++ [(⟨kk2, t2, n2, m2, h2, d2⟩ : GOp)]).length (gops (L ++ [(⟨kk2, t2, n2, m2, h2, d2⟩ : GOp)])) ∧ (L ++ [(⟨kk2, t2, n2, m2, h2, d2⟩ : GOp)]).length ≤ j + 1 ∧ ∀ x ∈ L ++ [(⟨kk2, t2, n2, m2, h2, d2⟩ : GOp)], x ∈ xs ∧ x.kind ≠ 1 ∧ x.kind ≠ 2 from by
                    obtain ⟨q1, q2, q3, q4⟩ := HL9.out
                    refine ⟨q2.keeps q1 k10, ?_, by simp; omega, fun x hx => ?_⟩
                    · rw [gops_snoc, List.length_append]; exact q2.app o10 at10 q1.size
                    · rcases List.mem_append.1 hx with h | h
                      · exact q4 x h
                      · simp only [List.mem_singleton] at h
                        subst h
                        exact ⟨HD.out.1 _ (List.mem_of_getElem? HG2.out), HK.out.1, HK.out.2⟩)
                  clear o10 k10 at10 o91 HL9 HG2 HK
                  go_roundw
                  case rel => exact ⟨j + 1, _, by omega, by go_num, HF⟩
                  case measure => simp [intOf]; omega
            case' inr =>
              have hkd2 : decide ((j : Int) < (Ld : Int)) = false := by simp; omega
              have hkd2n : decide (j < Ld) = false := by simp; omega
              have HL9 := HL
              clear HL hge
              go_wp2_with fail
            all_goals
              have N9 := Hid.of (N6.out.old HL9.out.1)
              have q := copy_any _ m M p N9.out.at' OK6.out (N9.out.tab HT.out)
              unfold CopyR at q
              go_wp2_with fail
              refine q.mono ?_
              rintro e w10 ⟨al, pa, rfl, C10, f10, k10⟩
              have T10 := Hid.of (N9.out.copied C10 f10 k10)
              have HF10 := Hid.of (And.intro f10 k10)
              clear q C10 f10 k10
              have q := copy_any w10 m M p T10.out.1.at' OK6.out (T10.out.1.tab HT.out)
              unfold CopyR at q
              go_wp2_with fail
              refine q.mono ?_
              rintro e w11 ⟨bo, pb, rfl, C11, f11, k11⟩
              have TR := Hid.of (T10.out.tri C11 f11 k11)
              obtain ⟨A3, cap3, hv3, hcap3, hfr3, hrd3⟩ := HL9.out.2.1.rd
              subst hv3
              obtain ⟨Ll, hLl⟩ : ∃ Ll, L.length = Ll := ⟨_, rfl⟩
              rw [hLl]
              have HS := Hid.of (show Tri w w11 m M p al M pa bo M pb ∧ Rd w11 A3 (gops L) ∧ (∀ x, (x = ob ∨ ∃ ad, A3 = some ad ∧ x = ad.block) → x < w11.heap.size ∧ ¬ MFp al M pa x ∧ ¬ MFp bo M pb x) ∧ w11.heap[ob]? = some (.cells #[.int .i64 kk, .int .i64 t, .int .i64 n, .int .i64 mm, .int .u64 hh, .string (bs d)] 34 (0, 0)) from by
                have k911 := HF10.out.2.trans k11
                have b9' := HL9.out.1.at HOP.out.2.2.1 (fun x => x)
                have s1 := k11.size
                have s2 := HF10.out.2.size
                refine ⟨TR.out, (hrd3.old k911), fun x hx => ?_, k911.at b9' (fun x => x)⟩
                rcases hx with rfl | ⟨ad, ha, rfl⟩
                · have := lt_of b9'
                  exact ⟨by omega, fun h => by have := HF10.out.1 _ h; omega, fun h => by have := f11 _ h; omega⟩
                · have := (hfr3 ad ha).2
                  exact ⟨by omega, fun h => by have := HF10.out.1 _ h; omega, fun h => by have := f11 _ h; omega⟩)
              have HLL := Hid.of (And.intro hLl HL9.out.2.2.2)
              have HL200 := Hid.of (show Ll ≤ 200 from by have := HL9.out.2.2.1; have := HD.out.2.2; omega)
              clear q C11 f11 k11 hcap3 hfr3 hrd3 hLl HL9 N9 T10 HF10 TR
              go_wp2
              go_loopw [85] (fun i wr => ∃ (l : Nat) (A B : MM) (pa pb : Pls), l ≤ Ll ∧ i = .int .i64 l ∧ Hid (Tri w wr m M p al A pa bo B pb ∧ (MOk A ∧ MOk B ∧ A.T o = B.T o) ∧ Rd wr A3 (gops L) ∧ (∀ x, (x = ob ∨ ∃ ad, A3 = some ad ∧ x = ad.block) → x < wr.heap.size ∧ ¬ MFp al A pa x ∧ ¬ MFp bo B pb x) ∧ wr.heap[ob]? = some (.cells #[.int .i64 kk, .int .i64 t, .int .i64 n, .int .i64 mm, .int .u64 hh, .string (bs d)] 34 (0, 0)))) (fun i _ => Ll - (intOf i).toNat)
              case atStart => exact ⟨0, M, M, pa, pb, by omega, rfl, Hid.of ⟨HS.out.1, ⟨OK6.out, OK6.out, rfl⟩, HS.out.2⟩⟩
              case round =>
                clear HS
                obtain ⟨l, A, B, pa, pb, hl, rfl, HI⟩ := hrel
                have hLl9 : Ll ≤ 200 := HL200.out
                by_cases hll : l < Ll
                · obtain ⟨b4, o4, s4, k4, t4, n4, m4, h4, d4, hg4, hA4, z0, z1, z2, z3, z4, z5⟩ := rgop HI.out.2.2.1 l (by rw [HLL.out.1]; exact hll)
                  have hkd4 : decide ((l : Int) < (Ll : Int)) = true := by simp; omega
                  obtain ⟨w12, hw12, k12, b12⟩ := alloc6 wr #[.int .i64 k4, .int .i64 t4, .int .i64 n4, .int .i64 m4, .int .u64 h4, .string (bs d4)] 34
                  obtain ⟨ob4, hob4⟩ : ∃ ob, wr.heap.size = ob := ⟨_, rfl⟩
                  rw [hob4] at b12
                  obtain ⟨⟨i0, i1, i2, i3, i4, i5⟩, -⟩ := six_cells b12
                  obtain ⟨hxs, hx1, hx2⟩ := HLL.out.2 _ (List.mem_of_getElem? hg4)
                  have okx := HA.out.2.2.1 _ hxs
                  have hdl : d4.length ≤ 1000000000 := by have : d4.length ≤ 128 * 200 + 15 := HX.out.2 _ hxs; omega
                  have TR := Hid.of (HI.out.1.old k12)
                  have q := mdo_any' w12 bo B pb k4 t4 n4 m4 h4 d4 TR.out.mb.2.1.at' HI.out.2.1.2.1 (TR.out.ma.1.tab HT.out) okx.h hdl okx.n okx.m
                  have q2 := fun wx (h1 : MAt wx al A pa) (h2 : Sh.Tab wx) => mdo_any' wx al A pa k4 t4 n4 m4 h4 d4 h1 HI.out.2.1.1 h2 okx.h hdl okx.n okx.m
                  have OKA := Hid.of (And.intro (HI.out.2.1.1.mdo ⟨k4, t4, n4, m4, h4, bs d4⟩) (And.intro (HI.out.2.1.2.1.mdo ⟨k4, t4, n4, m4, h4, bs d4⟩) (And.intro HI.out.2.1.1 HI.out.2.1.2.2)))
                  have HAL := Hid.of (fun (e : t4 = (o : Int)) => mdo_al (A := A) (B := B) (o := ⟨k4, t4, n4, m4, h4, bs d4⟩) ho8 e hx1 hx2 HI.out.2.1.2.2)
                  have HOT := Hid.of (fun (e : t4 ≠ (o : Int)) => mdo_other (B := B) (o := ⟨k4, t4, n4, m4, h4, bs d4⟩) (id := o) e hx1 hx2)
                  generalize mdo B ⟨k4, t4, n4, m4, h4, bs d4⟩ = RB at q OKA HAL HOT
                  generalize mdo A ⟨k4, t4, n4, m4, h4, bs d4⟩ = RA at q2 OKA HAL
                  obtain ⟨⟨ae, ah, aa, an, ad, ac⟩, B'⟩ := RB
                  obtain ⟨aA, A'⟩ := RA
                  dsimp only at q q2 OKA HAL HOT
                  unfold MDoR XAns.enc at q
                  dsimp only at q
                  have HB4 := Hid.of (And.intro (HI.out.2.2.1.old k12) (And.intro (fun x hx => (HI.out.2.2.2.1 x hx)) (And.intro (k12.at HI.out.2.2.2.2 (fun x => x)) (And.intro k12.size (And.intro b12 (show ¬ MFp al A pa ob4 ∧ ¬ MFp bo B pb ob4 from ⟨fun hx => by have := HI.out.1.ma.2.1.at'.lt hx; omega, fun hx => by have := HI.out.1.mb.2.1.at'.lt hx; omega⟩))))))
                  subst hA4
                  clear k12 b12 okx hdl hxs hx1 hx2 hg4 HI
                  go_wp2_with fail
                  refine q.mono ?_
                  rintro e w13 ⟨rfl, r⟩
                  obtain ⟨pb', G13⟩ := r.g
                  have TR13 := Hid.of (TR.out.b G13)
                  have b13 := G13.keeps.at HB4.out.2.2.2.2.1 HB4.out.2.2.2.2.2.2
                  have HB5 := Hid.of (show Rd w13 (some ⟨b4, o4, s4⟩) (gops L) ∧ (∀ x, (x = ob ∨ ∃ ad, some (⟨b4, o4, s4⟩ : Addr) = some ad ∧ x = ad.block) → x < w13.heap.size ∧ ¬ MFp al A pa x ∧ ¬ MFp bo B' pb' x) ∧ w13.heap[ob]? = some (.cells #[.int .i64 kk, .int .i64 t, .int .i64 n, .int .i64 mm, .int .u64 hh, .string (bs d)] 34 (0, 0)) ∧ ¬ MFp al A pa ob4 from by
                    obtain ⟨g1, g2, g3, g4, g5, g6⟩ := HB4.out
                    refine ⟨g1.keep G13.keeps (fun ad ha _ => (g2 _ (.inr ⟨ad, ha, rfl⟩)).2.2), fun x hx => ?_, G13.keeps.at g3 (g2 ob (.inl rfl)).2.2, g6.1⟩
                    obtain ⟨f1, f2, f3⟩ := g2 x hx
                    have := G13.keeps.size
                    refine ⟨by omega, f2, fun hx => ?_⟩
                    rcases G13.foot x hx with h | h
                    · exact f3 h
                    · omega)
                  obtain ⟨⟨l0, l1, l2, l3, l4, l5⟩, -⟩ := six_cells b13
                  obtain ⟨w14, hw14, k14, b14⟩ := alloc6 w13 #[.int .i64 ae, .int .u64 ah, .int .i64 aa, .int .i64 an, .string ad, .int .i64 ac] 36
                  obtain ⟨an4, han4⟩ : ∃ ob, w13.heap.size = ob := ⟨_, rfl⟩
                  rw [han4] at b14
                  obtain ⟨⟨c0, c1, c2, c3, c4, c5⟩, -⟩ := six_cells b14
                  obtain ⟨⟨j0, j1, j2, j3, j4, j5⟩, -⟩ := six_cells (k14.at b13 (fun x => x))
                  have TR14 := Hid.of (TR13.out.old k14)
                  have nan : ¬ MFp al A pa an4 := fun hx => by have := TR13.out.ma.2.1.at'.lt hx; omega
                  have HK14 := Hid.of (And.intro k14 nan)
                  clear q r G13 TR TR13 HB4 b13 b14 k14 nan
                  by_cases hto : t4 = (o : Int)
                  · have f1 : (t4 == (o : Int)) = true := by simpa using hto
                    have HAL2 := Hid.of (HAL.out hto)
                    have q3 := q2 w14.drew (TR14.out.ma.2.1.at'.old ((Keeps.refl _ _).drew)) ((TR14.out.ma.1.tab HT.out).old ((Keeps.refl _ _).drew))
                    rw [HAL2.out.1] at q3
                    unfold MDoR XAns.enc at q3
                    dsimp only at q3
                    have heq : ansEq ae ah aa an ad ac ae ah aa an ad ac = true := by simp [ansEq]
                    clear hto HAL HOT q2
                    go_wp2
                    go_region_held3 (fun wx : World => (wx.cell? ⟨ob4, 0, none⟩ = some (.int .i64 k4) ∧ wx.cell? ⟨ob4, 1, none⟩ = some (.int .i64 t4) ∧ wx.cell? ⟨ob4, 2, none⟩ = some (.int .i64 n4) ∧ wx.cell? ⟨ob4, 3, none⟩ = some (.int .i64 m4) ∧ wx.cell? ⟨ob4, 4, none⟩ = some (.int .u64 h4) ∧ wx.cell? ⟨ob4, 5, none⟩ = some (.string (bs d4))) ∧
                      wx.cell? ⟨an4, 0, none⟩ = some (.int .i64 ae) ∧ wx.cell? ⟨an4, 1, none⟩ = some (.int .u64 ah) ∧ wx.cell? ⟨an4, 2, none⟩ = some (.int .i64 aa) ∧ wx.cell? ⟨an4, 3, none⟩ = some (.int .i64 an) ∧ wx.cell? ⟨an4, 4, none⟩ = some (.string ad) ∧ wx.cell? ⟨an4, 5, none⟩ = some (.int .i64 ac))
                      (first | exact ⟨⟨j0, j1, j2, j3, j4, j5⟩, c0, c1, c2, c3, c4, c5⟩ | exact ⟨⟨v0, v1, v2, v3, v4, v5⟩, f0, f1', f2, f3, f4, f5⟩)
                      (first | (go_at_call 9; refine q3.mono ?_; clear q3; rintro e w15 ⟨rfl, r15⟩; obtain ⟨pa', G15'⟩ := r15.g; have K15 := G15'.keeps.of_drew; have v0 := keep_cellA K15 j0 HB5.out.2.2.2; have v1 := keep_cellA K15 j1 HB5.out.2.2.2; have v2 := keep_cellA K15 j2 HB5.out.2.2.2; have v3 := keep_cellA K15 j3 HB5.out.2.2.2; have v4 := keep_cellA K15 j4 HB5.out.2.2.2; have v5 := keep_cellA K15 j5 HB5.out.2.2.2; have f0 := keep_cellA K15 c0 HK14.out.2; have f1' := keep_cellA K15 c1 HK14.out.2; have f2 := keep_cellA K15 c2 HK14.out.2; have f3 := keep_cellA K15 c3 HK14.out.2; have f4 := keep_cellA K15 c4 HK14.out.2; have f5 := keep_cellA K15 c5 HK14.out.2))
                    have G15 : MRg w14 al A pa A' pa' w15 := ⟨G15'.at', K15, G15'.foot⟩
                    have HF := Hid.of (show Tri w w15 m M p al A' pa' bo B' pb' ∧ (MOk A' ∧ MOk B' ∧ A'.T o = B'.T o) ∧ Rd w15 (some ⟨b4, o4, s4⟩) (gops L) ∧ (∀ x, (x = ob ∨ ∃ ad, some (⟨b4, o4, s4⟩ : Addr) = some ad ∧ x = ad.block) → x < w15.heap.size ∧ ¬ MFp al A' pa' x ∧ ¬ MFp bo B' pb' x) ∧ w15.heap[ob]? = some (.cells #[.int .i64 kk, .int .i64 t, .int .i64 n, .int .i64 mm, .int .u64 hh, .string (bs d)] 34 (0, 0)) from by
                      obtain ⟨g1, g2, g3, g4⟩ := HB5.out
                      have k14 := HK14.out.1
                      refine ⟨TR14.out.a G15, ⟨OKA.out.1, OKA.out.2.1, HAL2.out.2⟩, (g1.old k14).keep K15 (fun ad ha _ => (g2 _ (.inr ⟨ad, ha, rfl⟩)).2.1), fun x hx => ?_, K15.at (k14.at g3 (fun x => x)) (g2 ob (.inl rfl)).2.1⟩
                      obtain ⟨r1, r2, r3⟩ := g2 x hx
                      have s1 := k14.size
                      have s2 := K15.size
                      refine ⟨by omega, fun hx => ?_, r3⟩
                      rcases G15.foot x hx with h | h
                      · exact r2 h
                      · omega)
                    clear r15 G15' K15 v0 v1 v2 v3 v4 v5 f0 f1' f2 f3 f4 f5 G15 TR14 HB5 HK14 OKA
                    go_wp2
                    go_roundw
                    case rel => exact ⟨l + 1, A', B', pa', pb', by omega, by go_num, HF⟩
                    case measure => simp [intOf]; omega
                  · have f1 : (t4 == (o : Int)) = false := by simpa using hto
                    have HOT2 := Hid.of (HOT.out hto)
                    have HF := fun nq => Hid.of (show Tri w (w14.drewN nq) m M p al A pa bo B' pb' ∧ (MOk A ∧ MOk B' ∧ A.T o = B'.T o) ∧ Rd (w14.drewN nq) (some ⟨b4, o4, s4⟩) (gops L) ∧ (∀ x, (x = ob ∨ ∃ ad, some (⟨b4, o4, s4⟩ : Addr) = some ad ∧ x = ad.block) → x < (w14.drewN nq).heap.size ∧ ¬ MFp al A pa x ∧ ¬ MFp bo B' pb' x) ∧ (w14.drewN nq).heap[ob]? = some (.cells #[.int .i64 kk, .int .i64 t, .int .i64 n, .int .i64 mm, .int .u64 hh, .string (bs d)] 34 (0, 0)) from by
                      obtain ⟨g1, g2, g3, g4⟩ := HB5.out
                      have k14 := HK14.out.1.drewN nq
                      refine ⟨TR14.out.old ((Keeps.refl _ _).drewN nq), ⟨OKA.out.2.2.1, OKA.out.2.1, OKA.out.2.2.2.trans HOT2.out.symm⟩, (g1.old k14), fun x hx => ?_, (k14.at g3 (fun x => x))⟩
                      obtain ⟨r1, r2, r3⟩ := g2 x hx
                      have s1 := k14.size
                      exact ⟨by omega, r2, r3⟩)
                    clear hto HAL HOT q2 TR14 HB5 HK14 OKA
                    go_wp2
                    go_quiet (fail)
                    go_wp2
                    go_roundw
                    case rel => exact ⟨l + 1, A, B', pa, pb', by omega, by go_num, HF _⟩
                    case measure => simp [intOf]; omega
                · have hkd4 : decide ((l : Int) < (Ll : Int)) = false := by simp; omega
                  have hkd4n : decide (l < Ll) = false := by simp; omega
                  have N12 := Hid.of HI.out.1.ma.1
                  obtain ⟨⟨i0, i1, i2, i3, i4, i5⟩, -⟩ := six_cells HI.out.2.2.2.2
                  have q := mdo_any' wr m M p kk t n mm hh d N12.out.at' OK6.out (N12.out.tab HT.out) HOP.out.1.h HOP.out.2.1 HOP.out.1.n HOP.out.1.m
                  have OK7 := Hid.of (OK6.out.mdo ⟨kk, t, n, mm, hh, bs d⟩)
                  generalize (mdo M ⟨kk, t, n, mm, hh, bs d⟩).2 = M' at q OK7
                  generalize (mdo M ⟨kk, t, n, mm, hh, bs d⟩).1 = a at q
                  obtain ⟨ae, ah, aa, an, ad, ac⟩ := a
                  unfold MDoR XAns.enc at q
                  dsimp only at q
                  clear HI
                  go_wp2_with fail
                  refine q.mono ?_
                  rintro e w13 ⟨rfl, r⟩
                  obtain ⟨p13, N13, -, -⟩ := N12.out.step r
                  have HN13 := Hid.of (And.intro N13 OK7.out)
                  clear q r N13 N12
                  go_wp2
                  go_roundw
                  case rel => exact ⟨k + 1, M', p13, by omega, by go_num, HN13⟩
                  case measure => simp [intOf]; omega
        · have hkd : decide ((k : Int) < (La : Int)) = false := by simp; omega
          have hkdn : decide (k < La) = false := by simp; omega
          have HF := Hid.of HI.out.1.keeps
          clear HI
          go_wp2
          go_ret
          exact ⟨rfl, HF.out⟩
end Mo
end Go.Proofs.YtagmkkddjdlncaaDoor
