/- The script package's pen: num. -/
import Derived.Test.YtmlolkjgniodpaaScrG
import Derived.Test.YtmlolkjgniodpaaStep
import Derived.Deep.DeepCutAuto
set_option linter.unusedVariables false
set_option linter.unusedSimpArgs false
namespace Go.Proofs.Ytmlolkjgniodpaa
open Go.RowKit Go.ChangeMaps
attribute [-go_sem] run_index_string run_neq_struct run_eql_struct run_equalIn_agg
section
variable {P : Program}
/-- 'append(xs, a, b, ..)' as one step of a region that draws: the new elements lie in a block made just before. -/
theorem step_appM {t e size bytes : Nat} (T : SlT P t e size bytes) (w : World) {ops : Array Oper} {o : Oper} {a : Act} {K : Act → World → Prop} {Q : Exit → Act → World → Prop} {E : Prop} (hgd : o.guard = none) (s x : Operand)
    (ho : o.op = .call { callee := .builtin .append, args := #[s, x], argTypes := #[t, t] }) (v : Value) (n m : Nat) (xs : List Value) (hs : a.eval s = v) (hown : Own w e size v n xs)
    (news : List Value) (hx : a.eval x = .slice (some ⟨w.heap.size, 0, none⟩) m m) (hl : news.length = m * size) (h1 : ∀ u ∈ news, u.oneCell' = true) (h63 : n + m ≤ maxLen) (hbytes : (n + m) * bytes ≤ 140737488355328)
    (h : ∀ v' w', Own w' e size v' (n + m) (xs ++ news) → Keeps (fun b => v.ownBlock = some b) w w' → (v'.ownBlock = v.ownBlock ∨ v'.ownBlock = some (w.heap.size + 1)) → K (a.put o.dst v') w') :
    if Region.wanted o (yielded ops a.tmps) = true then Oper.wp P o a (w.alloc (.cells news.toArray e)) K Q else E := by
  obtain ⟨i, z, hi, hz, h2, h3, h4⟩ := T.info
  have hw : Region.wanted o (yielded ops a.tmps) = true := by simp [Region.wanted, hgd]
  rw [if_pos hw]
  obtain ⟨v', w', hr, r2, hg, hnil, hat⟩ := run_append_own_at (P := P) (w.alloc (.cells news.toArray e)) 0 t o.type e i z size bytes T.ht hi hz h2 h3 h4 T.pos v n xs (hown.alloc _) ⟨w.heap.size, 0, none⟩ m m news hl (cells_new w news e) h1 h63 hbytes (Nat.zero_le _)
  unfold Oper.wp execOp
  simp only [ho, resolve, invoke, builtin, Sem.run_bind, Sem.run_pure, Result.andThen_ok, List.map_toArray, List.map_cons, List.map_nil, hs, hx, hr]
  refine h v' w' r2 ?_ (by simpa using hat)
  refine ⟨hg.os, hg.tape, hg.output, Nat.le_trans (by simp) hg.size, fun b hb hf => ?_⟩
  rw [hg.block b (by simp; omega) (fun e => hf e.symm)]
  show (w.heap.push _)[b]? = _
  rw [Array.getElem?_push, if_neg (by omega)]
end
namespace Scr
/-- A pen: its bytes, whether it is bad. -/
def PAt (w : World) (b : Nat) (v : Value) (out : Bs) (bad : Bool) : Prop :=
  w.heap[b]? = some (.cells #[v, .bool bad] 118 (0, 0)) ∧ Own w 5 1 v out.length (u8s out) ∧ v.ownBlock ≠ some b
theorem PAt.keep {F : Nat → Prop} {w w' : World} {b : Nat} {v : Value} {out : Bs} {bad : Bool} (h : PAt w b v out bad) (k : Keeps F w w') (hb : ¬ F b) (hv : ∀ g, v.ownBlock = some g → ¬ F g) : PAt w' b v out bad :=
  ⟨k.at h.1 hb, h.2.1.keep k hv, h.2.2⟩
theorem one_u8s (l : Bs) : ∀ u ∈ u8s l, u.oneCell' = true := by
  intro u hu
  obtain ⟨c, _, rfl⟩ := List.mem_map.1 hu
  rfl
theorem le16_cells (k : Int) : u8s (le16 k) = [.int .u8 (k % 256), .int .u8 (k / 256 % 256)] := by
  unfold u8s le16
  simp only [List.map_cons, List.map_nil, b8_toNat]
/-- A pen behind an append. -/
theorem pen_app {w1 w5 : World} {b m : Nat} {v v5 : Value} {out news : Bs} {bad : Bool} (h : PAt w1 b v out bad) (hm : news.length = m) (o5 : Own w5 5 1 v5 (out.length + m) (u8s out ++ u8s news)) (k5 : Keeps (fun x => v.ownBlock = some x) w1 w5)
    (at5 : v5.ownBlock = v.ownBlock ∨ v5.ownBlock = some (w1.heap.size + 1)) :
    ∃ A5 c5, v5 = .slice A5 (out.length + m) c5 ∧ w5.cell? ⟨b, 0, none⟩ = some v ∧ w5.frozen? ⟨b, 0, none⟩ = false ∧ PAt (w5.setCell ⟨b, 0, none⟩ v5) b v5 (out ++ news) bad ∧ (v5.ownBlock = v.ownBlock ∨ ∀ g, v5.ownBlock = some g → w1.heap.size ≤ g) ∧
      Keeps (fun x => x = b ∨ v.ownBlock = some x) w1 (w5.setCell ⟨b, 0, none⟩ v5) := by
  obtain ⟨hb, ho, hvb⟩ := h
  obtain ⟨A5, c5, hv, -, -, -⟩ := o5.shape
  have hb5 := k5.at hb hvb
  have hbl := lt_of hb
  have hvb5 : v5.ownBlock ≠ some b := by
    rcases at5 with e | e
    · rw [e]; exact hvb
    · rw [e]; intro hh; cases hh; omega
  refine ⟨A5, c5, hv, cell_of hb5 0 rfl, free_of hb5 0, ⟨set_of hb5 0 _, ?_, hvb5⟩, ?_, ?_⟩
  · rw [List.length_append, hm, u8s_append]
    exact o5.setCell _ _ hvb5
  · rcases at5 with e | e
    · exact .inl e
    · refine .inr (fun g hg => ?_)
      rw [e] at hg; cases hg; omega
  · exact (k5.mono (fun _ _ e => .inr e)).setCell _ _ (.inl (.inl rfl))
theorem pnum_end {w w1 w6 : World} {b xb i : Nat} {v v6 : Value} {out : Bs} {nb : Bool} {cc : Array Value} {tt : Nat} (k1 : Keeps (fun x => x = b) w w1) (hx1 : w1.heap[xb]? = some (.cells cc tt (0, 0))) (K6 : Keeps (fun x => x = b ∨ v.ownBlock = some x) w1 w6) (P6 : PAt w6 b v6 out nb)
    (at6 : v6.ownBlock = v.ownBlock ∨ ∀ g, v6.ownBlock = some g → w1.heap.size ≤ g) (hne : b ≠ xb) (hvx : v.ownBlock ≠ some xb) :
    w6.heap[xb]? = some (.cells cc tt (0, 0)) ∧ PAt (w6.setCell ⟨xb, i, none⟩ (.int .i64 0)) b v6 out nb ∧ (w6.setCell ⟨xb, i, none⟩ (.int .i64 0)).heap[xb]? = some (.cells (cc.setIfInBounds i (.int .i64 0)) tt (0, 0)) ∧ (v6.ownBlock = v.ownBlock ∨ ∀ g, v6.ownBlock = some g → w.heap.size ≤ g) ∧
      Keeps (fun x => x = b ∨ v.ownBlock = some x ∨ x = xb) w (w6.setCell ⟨xb, i, none⟩ (.int .i64 0)) := by
  have hx6 := K6.at hx1 (fun e => by rcases e with e | e; { exact hne e.symm }; { exact hvx e })
  have hxl := lt_of hx1
  have hs := k1.size
  refine ⟨hx6, P6.keep (kset w6 xb i _) hne (fun g hg e => ?_), set_of hx6 i _, ?_, ?_⟩
  · rcases at6 with e2 | e2
    · exact hvx (by rw [← e2, hg, e])
    · have := e2 g hg; omega
  · rcases at6 with e | e
    · exact .inl e
    · exact .inr (fun g hg => by have := e g hg; omega)
  · exact ((k1.mono (fun _ _ e => .inl e)).trans (K6.mono (fun _ _ e => by rcases e with e | e; { exact .inl e }; { exact .inr (.inl e) }))).trans ((kset w6 xb i _).mono (fun _ _ e => .inr (.inr e)))
set_option maxRecDepth 100000 in
set_option maxHeartbeats 4000000 in
theorem pnum_any (w : World) (b xb i : Nat) (v : Value) (out : Bs) (bad : Bool) (k : Int) (cc : Array Value) (tt : Nat) (hp : PAt w b v out bad) (hx : w.heap[xb]? = some (.cells cc tt (0, 0))) (hi : cc[i]? = some (.int .i64 k)) (hne : b ≠ xb) (hvx : v.ownBlock ≠ some xb) (hl : out.length ≤ 100000000)
    (hk1 : -9223372036854775808 ≤ k) (hk2 : k ≤ 9223372036854775807) :
    Calls Try.prog 78 #[.pointer (some ⟨b, 0, none⟩), .pointer (some ⟨xb, i, none⟩)] w fun e w' => e = .returned (.tuple #[]) ∧
      ∃ v', PAt w' b v' (out ++ le16 k) (bad || !in16 k) ∧ w'.heap[xb]? = some (.cells (cc.setIfInBounds i (.int .i64 0)) tt (0, 0)) ∧ (v'.ownBlock = v.ownBlock ∨ ∀ g, v'.ownBlock = some g → w.heap.size ≤ g) ∧ Keeps (fun x => x = b ∨ v.ownBlock = some x ∨ x = xb) w w' := by
  obtain ⟨hb, ho, hvb⟩ := hp
  have c0 := cell_of hb 0 rfl
  have c1 := cell_of hb 1 rfl
  have f1 := free_of hb 1
  have cx := cell_of hx i hi
  have hxl := lt_of hx
  have hbl := lt_of hb
  obtain ⟨A, cap, hv, -, -, -⟩ := ho.shape
  subst hv
  -- bad
  obtain ⟨w1, hw1⟩ : ∃ w1, w.setCell ⟨b, 1, none⟩ (.bool (bad || !in16 k)) = w1 := ⟨_, rfl⟩
  have hb1 : w1.heap[b]? = some (.cells #[.slice A out.length cap, .bool (bad || !in16 k)] 118 (0, 0)) := by rw [← hw1]; exact set_of hb 1 _
  have k1 : Keeps (fun x => x = b) w w1 := by rw [← hw1]; exact kset w b 1 _
  have ho1 := ho.keep k1 (fun g hg e => hvb (e ▸ hg))
  have hx1 := k1.at hx (fun e => hne e.symm)
  have cx1 := cell_of hx1 i hi
  have fx1 := free_of hx1 i
  have c01 := cell_of (v := .slice A out.length cap) hb1 0 rfl
  have l1 : b < w1.heap.size := lt_of hb1
  have HS := Hid.of (And.intro k1.size (And.intro hbl hxl))
  have e8 : IntKind.u8.wrap k = k % 256 := IntKind.wrap_u8 k
  have e9 : IntKind.u8.wrap (k / 256) = k / 256 % 256 := IntKind.wrap_u8 _
  have HPo : Hid (Own w1 5 1 (.slice A out.length cap) out.length (u8s out)) := Hid.of ho1
  have hbad : bad = true ∨ (bad = false ∧ k < -32768) ∨ (bad = false ∧ -32768 ≤ k ∧ 32767 < k) ∨ (bad = false ∧ -32768 ≤ k ∧ k ≤ 32767) := by cases bad <;> simp <;> omega
  have hnb : (bad || !in16 k) = (if bad = true then true else if k < -32768 then true else if 32767 < k then true else false) := by
    unfold in16
    cases bad
    · by_cases h1 : k < -32768
      · simp [h1]; try omega
      · by_cases h2 : 32767 < k
        · simp [h1, h2]; try omega
        · simp [h1, h2]; try omega
    · simp
  have HP1 : Hid (PAt w1 b (.slice A out.length cap) out (bad || !in16 k)) := Hid.of ⟨hb1, ho1, hvb⟩
  have HX1 := Hid.of hx1
  have HK1 := Hid.of k1
  have hi0 := hi
  clear hb hx hi ho hb1 hx1 k1 ho1 hxl hbl
  have HCI := Hid.of hi0
  obtain ⟨nb, hnbe⟩ : ∃ nb, (bad || !in16 k) = nb := ⟨_, rfl⟩
  rw [hnbe] at hw1 HP1 hnb
  rw [hnbe]
  have HNB := Hid.of hnb
  have HW1 := Hid.of hw1
  have HBD := Hid.of hbad
  clear hnbe hnb hbad hw1
  go_enter Try.func78, Try.ntmps78
  go_upto_region 0 with fail
  go_cut [4] (fun s wx => wx = w1)
  case first =>
    rcases HBD.out with rfl | ⟨rfl, h1⟩ | ⟨rfl, h1, h2⟩ | ⟨rfl, h1, h2⟩
    · obtain rfl : nb = true := by rw [HNB.out]; rfl
      have hw1 := HW1.out
      go_wp2_with fail
      go_meet
      first | rfl | exact ⟨rfl, rfl⟩
    · obtain rfl : nb = true := by rw [HNB.out]; simp [h1]
      have hd1 : decide (k < -32768) = true := by simp; omega
      have hw1 := HW1.out
      go_wp2_with fail
      go_meet
      first | rfl | exact ⟨rfl, rfl⟩
    · obtain rfl : nb = true := by rw [HNB.out]; simp [h2]
      have hd1 : decide (k < -32768) = false := by simp; omega
      have hd2 : decide (32767 < k) = true := by simp; omega
      have hw1 := HW1.out
      go_wp2_with fail
      go_meet
      first | rfl | exact ⟨rfl, rfl⟩
    · obtain rfl : nb = false := by rw [HNB.out]; simp; omega
      have hd1 : decide (k < -32768) = false := by simp; omega
      have hd2 : decide (32767 < k) = false := by simp; omega
      have hw1 := HW1.out
      go_wp2_with fail
      go_meet
      first | rfl | exact ⟨rfl, rfl⟩
  case rest =>
    first | rw [hcut] | rw [hcut.2]
    clear hcut
    go_wp2
    go_region_law (refine step_appM slBytes w1.drew rfl _ _ rfl (.slice A out.length cap) out.length 2 (u8s out) rfl HPo.out [.int .u8 (k % 256), .int .u8 (k / 256 % 256)] rfl rfl (by simp [Value.oneCell']) (by unfold maxLen; omega) (by omega) ?_; intro v5 w5 o5 k5 at5; obtain ⟨A5, c5, rfl, cc5, ff5, P5, at6, K5⟩ := pen_app (m := 2) (news := le16 k) (w1 := w1.drew) HP1.out rfl (by rw [le16_cells]; exact o5) k5 at5; obtain ⟨w6, hw6⟩ : ∃ w6, w5.setCell ⟨b, 0, none⟩ (.slice A5 (out.length + 2) c5) = w6 := ⟨_, rfl⟩; rw [hw6] at P5 K5; obtain ⟨hx6, P7, hx7, at7, K7⟩ := pnum_end (w1 := w1.drew) (i := i) HK1.out.drew HX1.out K5 P5 at6 hne hvx; have cx6 := cell_of hx6 i HCI.out; have fx6 := free_of hx6 i; have HF := Hid.of (And.intro P7 (And.intro hx7 (And.intro at7 K7))); clear o5 k5 at5 P5 K5 at6 hx6 P7 hx7 at7 K7)
    all_goals
      go_wp2
      go_end0
      exact ⟨rfl, _, HF.out⟩
end Scr
end Go.Proofs.Ytmlolkjgniodpaa
