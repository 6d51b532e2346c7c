/-
  Journal: the contract of Append.
-/
import Derived.Test.YteoodgcpkgfomaaJourK
namespace Go.Proofs.Yteoodgcpkgfomaa
open Go.RowKit
set_option linter.unusedVariables false

/-- Where a region ends, if it ends at all. -/
def Mid (N : Act → World → Prop) : Exit → Act → World → Prop
  | .normal, a, w => N a w
  | _, _, _ => False
theorem Mid.out {N : Act → World → Prop} {e : Exit} {a : Act} {w : World} (h : Mid N e a w) : e = .normal ∧ N a w := by
  cases e <;> first | exact ⟨rfl, h⟩ | exact h.elim

/-- A call of one argument inside a drawn region, by its contract. -/
theorem step_call1 {P : Program} {w : World} {ops : Array Oper} {o : Oper} {a : Act} {K : Act → World → Prop} {Q : Exit → Act → World → Prop} {E : Prop} (hgd : o.guard = none) (f : FuncId) (x : Operand) (t : TypeId)
    (ho : o.op = .call { callee := .value (.func f), args := #[x], argTypes := #[t] }) (he : ∀ args w, (callFunc f args).run P w = .ok (.enter f args) w) (v : Value) (hx : a.eval x = v) {R : Ending → World → Prop} (hc : Calls P f #[v] w R)
    (hR : ∀ e w', R e w' → ∃ u, e = .returned u ∧ K (a.put o.dst u) w') : if Region.wanted o (yielded ops a.tmps) = true then Oper.wp P o a w K Q else E := by
  have hw : Region.wanted o (yielded ops a.tmps) = true := by simp [Region.wanted, hgd]
  rw [if_pos hw]
  unfold Oper.wp execOp
  have hres0 : ∀ ρ : Operand → Value, ρ (.func f) = .func (.func f) #[] #[] → ρ x = v → (resolve ρ { callee := .value (.func f), args := #[x], argTypes := #[t] } o.type).run P w = .ok { target := .fn (.func f) #[], args := #[v] } w := by
    intro ρ h1 h2
    simp [resolve, go_sem, h1, h2]
  have hres := hres0 a.eval rfl hx
  simp only [ho, Sem.run_bind, hres, Result.andThen_ok]
  simp [invoke, go_sem, he, Oper.upon]
  refine hc.mono ?_
  intro e w' hr
  obtain ⟨u, rfl, hk⟩ := hR e w' hr
  exact hk

theorem appendText_nil (b : List UInt8) (w : World) (hb : b.length ≤ 16000000) : Calls Try.prog 32 #[.slice none 0 0, strOf b] w (RetB (frame b) w) := by
  have h := appendText_any (.slice none 0 0) [] ⟨b.toArray⟩ w ⟨none, 0, rfl, by simp, by simp, fun _ => ⟨rfl, rfl⟩, (fun ad h => by cases h)⟩ (by show 0 + b.length ≤ 16000000; omega)
  have e : ([] : List UInt8) ++ (leb (⟨b.toArray⟩ : ByteArray).size ++ sbytes ⟨b.toArray⟩) = frame b := by
    simp only [List.nil_append, frame, sbytes]
    rfl
  rw [e] at h
  exact h

set_option maxRecDepth 100000 in
set_option maxHeartbeats 1000000 in
theorem jappend_no {w : World} {base J B : Nat} {file : Int} {rv ev : Value} {us : List Value} {fs : List File} (s : JA) (v : Value) (b : List UInt8) (hj : Jr w base J B file rv ev us s.rs s.off) (hi : Is w base B fs s.a) (ha : JApart J B fs rv ev us) (hb : Bs w v b)
    (hno : s.off = true ∨ 1048576 < b.length) :
    Calls Try.prog 28 #[.pointer (some ⟨J, 0, none⟩), v] w (JRet base J B file fs rv ev us (s.append file b) w) := by
  obtain ⟨a, rs, off⟩ := s
  simp only at hj hi hno
  have c4 := hj.c_off
  have HT := Lib.hid (jturn0 hj hi ha (Kept.refl Kno w))
  obtain ⟨A, cap, rfl, -⟩ := hb
  clear hj hi ha
  unfold JA.append
  cases off with
  | true =>
    simp only [if_true]
    go_enter Try.func28, Try.ntmps28
    go_wp2
    go_ret
    exact ⟨rfl, HT.out⟩
  | false =>
    have hlen : 1048576 < b.length := by simpa using hno
    simp only [Bool.false_eq_true, if_false, if_pos hlen]
    have hl2 : (1048576 : Int) < (b.length : Int) := by omega
    go_enter Try.func28, Try.ntmps28
    go_wp2
    go_ret
    exact ⟨rfl, HT.out⟩

set_option maxRecDepth 100000 in
set_option maxHeartbeats 4000000 in
theorem jappend_yes {w : World} {base J B : Nat} {file : Int} {rv ev : Value} {us : List Value} {fs : List File} (a : Ab) (rs : List (List UInt8)) (v : Value) (b : List UInt8) (hj : Jr w base J B file rv ev us rs false) (hi : Is w base B fs a) (ha : JApart J B fs rv ev us) (hb : Bs w v b)
    (hbJ : ∀ w1, Kept (fun k => JOwn J rv ev us k ∨ DK B fs k) w w1 → Bs w1 v b) (hlen : b.length ≤ 1048576) (hfit : (a.append file (frame b)).2 = 0 → (frames (rs ++ [b])).length ≤ 20000000) (hbase : base ≤ w.heap.size) :
    Calls Try.prog 28 #[.pointer (some ⟨J, 0, none⟩), v] w (JRet base J B file fs rv ev us ((⟨a, rs, false⟩ : JA).done (a.append file (frame b)) (rs ++ [b])) w) := by
  obtain ⟨i0, hi0, hz0, hz1, hz2⟩ := info_parts info_byte
  obtain ⟨j0, hj0, hy0, hy1, hy2⟩ := info_parts info_recs
  obtain ⟨k0, hk0, hx0, hx1, hx2⟩ := info_parts info_ends
  have c0 := hj.c_disk
  have c1 := hj.c_file
  have c4 := hj.c_off
  have HJ := Lib.hid hj
  have HI := Lib.hid hi
  have HA := Lib.hid ha
  have HB := Lib.hid hb
  have HBJ := Lib.hid hbJ
  have HF := Lib.hid hfit
  have t1 := run_string_bs (P := Try.prog) 30 9 5 hb Try.underlying30 Try.underlying5 Try.underlying9
  obtain ⟨A, cap, rfl, -⟩ := hb
  obtain ⟨⟨a', c⟩, hp⟩ : ∃ p, p = a.append file (frame b) := ⟨_, rfl⟩
  have HP := Lib.hid hp
  have hl2 : ¬ (1048576 : Int) < (b.length : Int) := by omega
  rw [← hp]
  clear hj hi ha hbJ hfit hp
  have hat := fun w => appendText_nil b w (by omega)
  simp only [strOf] at hat
  have HAT := Lib.hid hat
  clear hat
  go_enter Try.func28, Try.ntmps28
  go_wp2_with fail
  refine (HAT.out w).mono ?_
  rintro e w1 ⟨A1, cap1, rfl, hown1, hk1⟩
  have HO1 := Lib.hid hown1
  have HJ1 := Lib.hid (HJ.out.kept0 hk1)
  have HI1 := Lib.hid (HI.out.kept0 hk1)
  clear hown1 c0 c1 c4 t1
  have c0 := HJ1.out.c_disk
  have c1 := HJ1.out.c_file
  have c4 := HJ1.out.c_off
  go_wp2_with fail
  have HJd := Lib.hid (HJ1.out.kept0 (Kept.drew (Kept.refl Kno w1)))
  have HId := Lib.hid (HI1.out.kept0 (Kept.drew (Kept.refl Kno w1)))
  have HOd := Lib.hid (own_kept HO1.out (Kept.drew (Kept.refl Kno w1)) (fun _ _ h => h))
  have hap := append_any file _ (frame b) HId.out (OwnB.bs HOd.out)
  rw [← HP.out] at hap
  have HAP := Lib.hid hap
  clear hap
  refine wp_mono (Q := Mid fun a3 w3 => a3 = { tmps := #[.pointer (some ⟨J, 0, none⟩), .slice A b.length cap, undef, undef, .int .i64 0, .slice A1 (frame b).length cap1, .int .i64 c, .pointer (some ⟨J, 0, none⟩), .pointer (some ⟨J, 0, none⟩), .pointer (some ⟨J, 4, none⟩), .bool false, .slice A b.length cap, .int .i64 b.length, .bool false, .slice A b.length cap, .string ⟨b.toArray⟩, .slice A1 (frame b).length cap1, .pointer (some ⟨J, 0, none⟩), .pointer (some ⟨J, 0, none⟩), .pointer (some ⟨J, 0, none⟩), .pointer (some ⟨J, 0, none⟩), .pointer (some ⟨B, 0, none⟩), .pointer (some ⟨J, 0, none⟩), .pointer (some ⟨J, 0, none⟩), .pointer (some ⟨J, 1, none⟩), .int .i64 file, .slice A1 (frame b).length cap1, .int .i64 c, .int .i64 c, undef, undef, undef, undef, undef, undef, undef, undef, undef, undef, undef, undef, undef, undef, undef, undef, undef, undef, undef, undef, undef, undef, undef, undef, undef, undef, undef, undef], defers := [] } ∧ ∃ fsq, Is w3 base B fsq a' ∧ Jr w3 base J B file rv ev us rs (decide (c = 220)) ∧ JApart J B fsq rv ev us ∧ Kept (fun k => JOwn J rv ev us k ∨ DK B fs k) w w3 ∧ (∀ k, DK B fsq k → DK B fs k ∨ w.heap.size ≤ k)) ?_ ?_
  · go_region_with (first
      | (go_at_call 33
         refine HAP.out.mono ?_
         rintro e w2 ⟨rfl, ht⟩
         have HTN := Lib.hid ((jturn_note c HJd.out HId.out HA.out ht).2)
         have d4 := (jr_turn HJd.out HA.out ht).c_off
         have g4 := (jr_turn HJd.out HA.out ht).blk.frozen 4
         clear ht)
      | (go_at_call 63
         refine (note_any J _ false w2 d4 g4).mono ?_
         rintro e w3 ⟨rfl, hw3⟩
         rw [← hw3] at HTN
         clear hw3))
    all_goals
      go_wp2
      obtain ⟨fsq, q1, q2, q3, q4, q5⟩ := HTN.out
      have hkd := hk1.then0 (Kept.drew (Kept.refl Kno w1))
      have hsz := hkd.size
      exact ⟨rfl, fsq, q1, q2, q3, (hkd.mono (T := fun k => JOwn J rv ev us k ∨ DK B fs k) (fun _ _ h => h.elim)).trans q4 (fun _ _ h => h), fun k h => (q5 k h).imp_right (fun h => by omega)⟩
  intro e a3 w3 hmid
  obtain ⟨rfl, rfl, fsq, hiq, hjq, haq, hkq, hdkq⟩ := hmid.out
  clear HAP HJd HId HOd c0 c1 c4
  by_cases hc : c = 0
  · subst hc
    rw [decide_eq_false (show ¬ (0 : Int) = 220 by decide)] at hjq
    have HIQ := Lib.hid hiq
    have HJQ := Lib.hid hjq
    have HAQ := Lib.hid haq
    have HKQ := Lib.hid hkq
    have HDQ := Lib.hid hdkq
    have hFb : (frames rs).length ≤ 20000000 := HJ.out.fit
    have hMb : (frame b).length ≤ 1048590 := by have := (leb_length b.length).2; rw [frame_length]; omega
    have hwb : base ≤ w3.heap.size := Nat.le_trans hbase hkq.size
    clear hiq hjq haq hkq hdkq
    have c3 := HJQ.out.c_ends
    have f3 := HJQ.out.blk.frozen 3
    have lJ := HJQ.out.blk.lt
    obtain ⟨Ae, ce, hev⟩ := own_form HJQ.out.er
    have HEV := Lib.hid hev
    rw [hev] at c3
    have HJQd := Lib.hid (HJQ.out.kept0 (Kept.drew (Kept.refl Kno w3)))
    have m1 : rs.length + 1 ≤ maxLen := by have := HJQ.out.cnt; simp only [maxLen]; omega
    have hcn : rs.length ≤ 20000000 := HJQ.out.cnt
    have hwr : IntKind.i64.wrap (((frames rs).length : Int) + ((frame b).length : Int)) = (((frames (rs ++ [b])).length : Nat) : Int) := by
      rw [IntWalk.i64_in _ (by omega), frames_snoc, List.length_append]; omega
    clear hev
    go_wp2_with fail
    refine wp_mono (Q := Mid fun a5 w6 => ∃ A5 cap5, a5 = { tmps := #[.pointer (some ⟨J, 0, none⟩), .slice A b.length cap, undef, undef, .int .i64 0, .slice A1 (frame b).length cap1, .int .i64 0, .pointer (some ⟨J, 0, none⟩), .pointer (some ⟨J, 0, none⟩), .pointer (some ⟨J, 4, none⟩), .bool false, .slice A b.length cap, .int .i64 b.length, .bool false, .slice A b.length cap, .string ⟨b.toArray⟩, .slice A1 (frame b).length cap1, .pointer (some ⟨J, 0, none⟩), .pointer (some ⟨J, 0, none⟩), .pointer (some ⟨J, 0, none⟩), .pointer (some ⟨J, 0, none⟩), .pointer (some ⟨B, 0, none⟩), .pointer (some ⟨J, 0, none⟩), .pointer (some ⟨J, 0, none⟩), .pointer (some ⟨J, 1, none⟩), .int .i64 file, .slice A1 (frame b).length cap1, .int .i64 0, .int .i64 0, .int .i64 0, .bool false, undef, .pointer (some ⟨J, 0, none⟩), .pointer (some ⟨J, 0, none⟩), .pointer (some ⟨J, 0, none⟩), .pointer (some ⟨J, 3, none⟩), .slice Ae rs.length ce, .pointer (some ⟨J, 0, none⟩), .int .i64 ((frames rs).length : Nat), .slice A1 (frame b).length cap1, .int .i64 (frame b).length, .int .i64 (((frames (rs ++ [b])).length : Nat) : Int), .slice (some ⟨w3.heap.size, 0, none⟩) 1 1, .slice A5 (rs.length + 1) cap5, .pointer (some ⟨J, 0, none⟩), .pointer (some ⟨J, 3, none⟩), undef, undef, undef, undef, undef, undef, undef, undef, undef, undef, undef], defers := [] } ∧ JE w6 base J B file rv (.slice A5 (rs.length + 1) cap5) us rs (rs ++ [b]) false ∧ JStep J rv ev rv (.slice A5 (rs.length + 1) cap5) us us w3 w6) ?_ ?_
    · go_region_law (first
        | (refine step_call1 (by rfl) 64 _ _ (by rfl) (enters_of Try.func64 (by kernel_rfl) rfl) _ (by rfl) (size_j HJQd.out) ?_
           rintro e w4 ⟨rfl, nn, rfl⟩
           have c3n : (w3.drewN (1 + nn)).cell? ⟨J, 3, none⟩ = some (.slice Ae rs.length ce) := c3
           have c3m : ∀ o, ((w3.drewN (1 + nn)).alloc o).cell? ⟨J, 3, none⟩ = some (.slice Ae rs.length ce) := fun o => Kept.cell_some ((Kept.drewN (Kept.refl Kno w3) (1 + nn)).alloc o) c3 (fun h => h)
           refine ⟨_, rfl, ?_⟩)
        | (refine step_append_rd _ (by rfl) _ _ 31 (by rfl) base 3 k0 _ 1 8 Try.underlying31 hk0 hx0 hx1 hx2 rfl (by omega) (.slice Ae rs.length ce) rs.length (eVal rs) (by rfl) (by have h9 := HJQ.out.er; rw [HEV.out] at h9; exact World.ownsRow.alloc (own_kept h9 (Kept.drewN (Kept.drew (Kept.refl Kno w3)) nn) (fun _ _ h => h)) _) _ 1 [.int .i64 (((frames (rs ++ [b])).length : Nat) : Int)] (by rfl) (by rw [← hwr]; exact Rd.one _ _ _ rfl) (by simp [Value.oneCell']) m1 (by omega) (by simp; omega) ?_
           intro A5 cap5 w5 hown5 hg5 hat5
           have hk5 : Kept (Kown (.slice Ae rs.length ce)) w3 w5 := ((Kept.drewN (Kept.refl _ w3) (1 + nn)).alloc _).grown hg5 (fun k _ e => e)
           have hJe : ¬ Kown (.slice Ae rs.length ce) J := by have h9 := HJQ.out.je.J_ev; rw [HEV.out] at h9; exact h9
           have q3 := hk5.cell_some c3 hJe
           have q3' := hk5.frozen_no f3 lJ hJe
           have HG := Lib.hid (HJQ.out.je.grow_ends (b := b) ((Kept.drewN (Kept.refl Kno w3) (1 + nn)).alloc _) (by rw [HEV.out]; exact hg5) hown5 (by rw [HEV.out]; exact hat5))))
      all_goals
        exact ⟨A5, cap5, rfl, HG.out.1, HG.out.2⟩
    intro e a5 w6 hmid
    obtain ⟨rfl, A5, cap5, rfl, hje, hst⟩ := hmid.out
    have hk6 : Kept (fun k => JOwn J rv ev us k ∨ DK B fs k) w w6 := HKQ.out.trans hst.1 (fun k _ e => by
      rcases e with e | e | e
      · exact .inl (.inl e)
      · exact .inl (.inr (.inl e))
      · exact .inl (.inr (.inr (.inl e))))
    have HB6 := Lib.hid (HBJ.out w6 hk6)
    have HJE := Lib.hid hje
    have HST := Lib.hid hst
    have hw6 : base ≤ w6.heap.size := Nat.le_trans hwb hst.1.size
    have c2 := hje.blk.cell 2
    have f2 := hje.blk.frozen 2
    have l2 := hje.blk.lt
    obtain ⟨Ar, cr, hrv⟩ := own_form hje.rr.row
    have HRV := Lib.hid hrv
    have c2' : w6.cell? ⟨J, 2, none⟩ = some (.slice Ar rs.length cr) := by rw [← hrv]; exact c2
    clear hje hst c2 hk6 hrv c3 f3 lJ HJQd hwr
    have m2 : 0 + b.length ≤ maxLen := by simp only [maxLen]; omega
    go_wp2_with fail
    refine wp_mono (Q := Mid fun a7 w10 => (∃ X7 X8 X9 : Value, a7 = { tmps := #[.pointer (some ⟨J, 0, none⟩), .slice A b.length cap, undef, undef, .int .i64 0, .slice A1 (frame b).length cap1, .int .i64 0, .pointer (some ⟨J, 0, none⟩), .pointer (some ⟨J, 0, none⟩), .pointer (some ⟨J, 4, none⟩), .bool false, .slice A b.length cap, .int .i64 b.length, .bool false, .slice A b.length cap, .string ⟨b.toArray⟩, .slice A1 (frame b).length cap1, .pointer (some ⟨J, 0, none⟩), .pointer (some ⟨J, 0, none⟩), .pointer (some ⟨J, 0, none⟩), .pointer (some ⟨J, 0, none⟩), .pointer (some ⟨B, 0, none⟩), .pointer (some ⟨J, 0, none⟩), .pointer (some ⟨J, 0, none⟩), .pointer (some ⟨J, 1, none⟩), .int .i64 file, .slice A1 (frame b).length cap1, .int .i64 0, .int .i64 0, .int .i64 0, .bool false, undef, .pointer (some ⟨J, 0, none⟩), .pointer (some ⟨J, 0, none⟩), .pointer (some ⟨J, 0, none⟩), .pointer (some ⟨J, 3, none⟩), .slice Ae rs.length ce, .pointer (some ⟨J, 0, none⟩), .int .i64 ((frames rs).length : Nat), .slice A1 (frame b).length cap1, .int .i64 (frame b).length, .int .i64 (((frames (rs ++ [b])).length : Nat) : Int), .slice (some ⟨w3.heap.size, 0, none⟩) 1 1, .slice A5 (rs.length + 1) cap5, .pointer (some ⟨J, 0, none⟩), .pointer (some ⟨J, 3, none⟩), .pointer (some ⟨J, 0, none⟩), .pointer (some ⟨J, 0, none⟩), .pointer (some ⟨J, 0, none⟩), .pointer (some ⟨J, 2, none⟩), .slice Ar rs.length cr, .slice A b.length cap, X7, X8, X9, .pointer (some ⟨J, 0, none⟩), .pointer (some ⟨J, 2, none⟩)], defers := [] }) ∧ ∃ rv' us', JE w10 base J B file rv' (.slice A5 (rs.length + 1) cap5) us' (rs ++ [b]) (rs ++ [b]) false ∧ JStep J rv (.slice A5 (rs.length + 1) cap5) rv' (.slice A5 (rs.length + 1) cap5) us us' w6 w10) ?_ ?_
    · go_region_law (first
        | (refine step_append_rd _ (by rfl) _ _ 30 (by rfl) w6.heap.size 5 i0 _ 1 1 Try.underlying30 hi0 hz0 hz1 hz2 rfl (by omega) (.slice none 0 0) 0 [] (by rfl) (World.ownsRow_nil _ _ _ _) _ b.length (b.map bv) (by rfl) (Rd.drew HB6.out) (bvs_one b) m2 (by omega) (by simp) ?_
           intro A7 cap7 w7 hown7 hg7 hat7
           have hk7 : Kept Kno w6 w7 := (Kept.drew (Kept.refl _ w6)).grown hg7 (fun k _ e => by cases e)
           have HO7 : Hid (OwnB w7 w6.heap.size 5 (.slice A7 b.length cap7) b) := Lib.hid (by have h9 := hown7; rw [Nat.zero_add, List.nil_append] at h9; exact h9)
           have c7 := hk7.cell_some c2' (fun h => h)
           have c7m : ∀ o, (w7.alloc o).cell? ⟨J, 2, none⟩ = some (.slice Ar rs.length cr) := fun o => Kept.cell_some (hk7.alloc o) c2' (fun h => h)
           have hs7 := hk7.size
           rw [Nat.zero_add]
           clear hown7 hg7 hat7)
        | (refine step_append_rd _ (by rfl) _ _ 45 (by rfl) base 30 j0 _ 1 24 Try.underlying45 hj0 hy0 hy1 hy2 rfl (by omega) (.slice Ar rs.length cr) rs.length us (by rfl) (by have h9 := HJE.out.rr.row; rw [HRV.out] at h9; exact World.ownsRow.alloc (own_kept h9 hk7 (fun _ _ h => h)) _) _ 1 [.slice A7 b.length cap7] (by rfl) (Rd.one _ _ _ rfl) (by simp [Value.oneCell']) m1 (by omega) (by simp; omega) ?_
           intro A9 cap9 w9 hown9 hg9 hat9
           have hk9 : Kept (Kown (.slice Ar rs.length cr)) w6 w9 := ((hk7.mono (T := Kown (.slice Ar rs.length cr)) (fun _ _ h => h.elim)).alloc _).grown hg9 (fun k _ e => e)
           have hJr : ¬ Kown (.slice Ar rs.length cr) J := by have h9 := HJE.out.J_rv; rw [HRV.out] at h9; exact h9
           have q2 := hk9.cell_some c2' hJr
           have q2' := hk9.frozen_no f2 l2 hJr
           have hO := own_kept HO7.out ((Kept.refl Kno w7).alloc (.cells #[.slice A7 b.length cap7] 30)) (fun _ _ h => h)
           have HG := Lib.hid (HJE.out.grow_recs (b := b) (hk7.alloc _) ((RecIn.own hO).rebase hw6) (fun k e => (own_base hO e).1) (by rw [HRV.out]; exact hg9) hown9 (by rw [HRV.out]; exact hat9))))
      all_goals
        exact ⟨⟨_, _, _, rfl⟩, _, _, HG.out.1, HG.out.2⟩
    intro e a7 w10 hmid
    obtain ⟨rfl, ⟨X7, X8, X9, rfl⟩, rv', us', hje2, hst2⟩ := hmid.out
    have hjf : Jr w10 base J B file rv' (.slice A5 (rs.length + 1) cap5) us' (rs ++ [b]) false := hje2.jr (HF.out (by rw [← HP.out]))
    have HTN := Lib.hid (jturn_after HKQ.out HDQ.out ((HST.out.trans hst2).turn HIQ.out HAQ.out hjf))
    clear hje2 hst2 hjf
    go_wp2
    go_ret
    refine ⟨rfl, ?_⟩
    have h9 := HTN.out
    simpa [JA.done] using h9
  · have HTN := Lib.hid (show JTurn base J B file fs rv ev us ⟨a', rs, decide (c = 220)⟩ w w3 from ⟨fsq, rv, ev, us, hiq, hjq, haq, hkq, hdkq, fun k h => .inl h⟩)
    clear hiq hjq haq hkq hdkq
    go_wp2
    go_ret
    refine ⟨rfl, ?_⟩
    have h9 := HTN.out
    simpa [JA.done, hc] using h9

end Go.Proofs.Yteoodgcpkgfomaa
