/-
  Contracts and plain laws that the claim's theorem rests on, some texts in one file.
-/
import Derived.Test.YtffdaohmalmkfaaGreatM25
/-
  Packet's reference: the writer of subscriptions. (Printed by gen_pakrc.py.)
-/
namespace Go.Proofs.YtffdaohmalmkfaaGreat
open Go.RowKit
set_option linter.unusedVariables false

section
variable {P : Program}
theorem yieldsIf_load_at {ops : Array Oper} {S : World → Prop} {op : Oper} {a : Act} (hw : Region.wanted op (yielded ops a.tmps) = true) (ty : TypeId) (x : Operand) (ho : op.op = .load ty x)
    (g o : Nat) (hx : a.eval x = .pointer (some ⟨g, o, none⟩)) (cs : List Value) (d : TypeDesc) (hS : ∀ w, S w → CellsAt w g o cs)
    (hu : P.underlying ty = some d) (hd : (match d with | .struct _ | .array _ _ => true | _ => false) = true) (hi : (P.info? ty).map (·.size) = some cs.length) : YieldsIf P ops S op (.agg cs.toArray) a :=
  .inl ⟨hw, fun w hw' => by
    have hr := run_loadVar_at (P := P) w ty g o cs d (hS w hw') hu hd hi
    unfold execOp
    simp only [ho, hx, Instr.loadAt, Instr.sureAddr, Sem.run_bind, Sem.run_pure, Result.andThen_ok, hr]⟩
end
theorem encSubs_get_le (xs : List Sub) (k : Nat) (x : Sub) (h : xs[k]? = some x) : ((xs.take k).flatMap encSub).length + (encSub x).length ≤ (xs.flatMap encSub).length := by
  have h1 := flatMap_take_le encSub xs (k + 1)
  rw [flatMap_take_succ encSub xs k x h, List.length_append] at h1
  exact h1

set_option maxRecDepth 100000 in
set_option maxHeartbeats 8000000 in
theorem xsubs_any (base B : Nat) (b u : Value) (l : List UInt8) (xs : List Sub) (w : World) (h : OwnB w base 5 b l) (hu : SubsIn w B u xs) (hf : ∀ x ∈ xs, fitQ 1 x.q = true) (hB : B ≤ base) (hbw : base ≤ w.heap.size) (hl : l.length + (encSubs xs).length ≤ 600000000000) :
    Calls Tryz.prog 48 #[b, u] w (AppOk base b (l ++ encSubs xs) w) := by
  have H := Lib.hid h
  have HF := Lib.hid hf
  have HU := Lib.hid hu
  have hlen : l.length + (leb xs.length).length + (xs.flatMap encSub).length ≤ 600000000000 := by simp only [encSubs, List.length_append] at hl; omega
  have HL := Lib.hid hlen
  obtain ⟨A0, cap0, rfl⟩ := own_form h
  obtain ⟨A, cap, rfl, hcap, hmax, hlow, hat⟩ := hu
  have hmax' : cap ≤ 9223372036854775807 := by simpa only [maxLen] using hmax
  obtain ⟨L, hLe⟩ : ∃ L, L = l ++ leb xs.length := ⟨_, rfl⟩
  have HLe := Lib.hid hLe
  have HLL : Hid (L.length + (xs.flatMap encSub).length ≤ 600000000000) := Lib.hid (by rw [hLe, List.length_append]; omega)
  clear h hf hlen hat hlow hl hmax hLe
  go_enter Tryz.func48, Tryz.ntmps48
  go_wp2_with fail
  refine (xcount_to HLe.out H.out (by omega) (by have := HL.out; omega) hbw).mono ?_
  rintro e w1 ⟨A1, cap1, rfl, ho1, hs1⟩
  have HO1 := Lib.hid ho1
  have HS1 := Lib.hid hs1
  clear ho1 hs1
  go_wp2_with fail
  go_loopw [0, 13] (fun b' i wr => XLoop xs.length base (.slice A0 l.length cap0) (fun k => L ++ (xs.take k).flatMap encSub) w b' i wr) (fun _ i _ => xs.length - (intOf i).toNat)
  case atStart => exact ⟨0, A1, cap1, L, Nat.zero_le _, rfl, rfl, by simp, HO1.out, HS1.out⟩
  case round =>
    obtain ⟨k, A6, cap6, m6, hk, rfl, rfl, hm6, ho6, hs6⟩ := hrel
    have HO6 := Lib.hid ho6
    have HS6 := Lib.hid hs6
    have HM6 : Hid (m6 = L ++ (xs.take k).flatMap encSub) := Lib.hid hm6
    have hbr : base ≤ wr.heap.size := Nat.le_trans hbw hs6.k.size
    clear ho6 hs6 hm6
    by_cases hlt : k < xs.length
    · obtain ⟨A', cap', hv', -, -, -, hcell⟩ := HU.out.old ((HS6.out.old H.out hbw).less hB) (Nat.le_refl _)
      injection hv' with e1 e2 e3
      subst e1 e3
      obtain ⟨g, o, rfl, hgB, hc⟩ := hcell (by omega)
      obtain ⟨x, hx⟩ : ∃ x, xs[k]? = some x := ⟨_, List.getElem?_eq_getElem hlt⟩
      obtain ⟨x1, x2, s, hqi, hqc⟩ := hc k x hx
      have HX1 := Lib.hid x1
      have HX2 := Lib.hid x2
      have HQC := Lib.hid hqc
      have HQI := Lib.hid hqi
      have HFX := Lib.hid (HF.out x (List.mem_of_getElem? hx))
      have HTK := Lib.hid (flatMap_take_succ encSub xs k x hx)
      have HLEN : Hid (m6.length + (encSub x).length ≤ 600000000000) := Lib.hid (by have := HLL.out; have := encSubs_get_le xs k x hx; rw [HM6.out, List.length_append]; omega)
      have hqn := x.q.cells_length s
      have hqo := QIn.one hqi
      have hn23 : (subC x s).length = 23 := by simp [subC, hqn]
      have HI : Hid ((Tryz.prog.info? 62).map (·.size) = some (subC x s).length) := Lib.hid (by rw [hn23]; kernel_rfl)
      have HI2 : Hid ((Tryz.prog.info? 62).map (·.size) = some (subC x s).toArray.size) := Lib.hid (by rw [List.size_toArray, hn23]; kernel_rfl)
      have HZ : Hid ((subC x s).toArray.size = 23) := Lib.hid (by rw [List.size_toArray, hn23])
      have HO : Hid ((subC x s).toArray.all (·.oneCell') = true) := Lib.hid (by simpa [subC, Value.oneCell'] using hqo)
      have hk0 : (0 : Int) ≤ (k : Int) := by omega
      have hk9 : (k : Int) < (xs.length : Int) := by omega
      clear hcell hc hx hqc hqn hqo hn23 x1 x2 e2
      go_wp2_with (first
        | (refine wpList_load_at rfl 62 (.tmp 15) rfl g (o + k * 23) (subC x s) _ rfl HQC.out Tryz.underlying62 rfl HI.out ?_)
        | (refine wpList_store_new rfl 62 (.tmp 6) (.tmp 16) rfl _ (subC x s).toArray rfl rfl HI2.out (by rw [HZ.out]; rfl) HO.out ?_))
      obtain ⟨wB, hB'⟩ : ∃ wB, wB = wr.alloc (.cells (subC x s).toArray 62) := ⟨_, rfl⟩
      rw [← hB']
      have hkB : Kept Kno wr wB := by rw [hB']; exact (Kept.refl _ _).alloc _
      have HG7 : Hid (GdB wB (.slice A6 m6.length cap6) wr.heap.size 62 (subC x s).toArray) := Lib.hid (by rw [hB']; exact GdB.new HO6.out _ _)
      have HO7 : Hid (OwnB wB base 5 (.slice A6 m6.length cap6) m6) := Lib.hid (own_kept HO6.out hkB (fun _ _ h => h))
      have HS7 : Hid (BStep (.slice A0 l.length cap0) w (.slice A6 m6.length cap6) wB) := Lib.hid (HS6.out.then0 hkB)
      have HS7r : Hid (BStep (.slice A6 m6.length cap6) wB (.slice A6 m6.length cap6) wB) := Lib.hid (BStep.refl _ _)
      have HQB : Hid (QIn wB B x.q s) := Lib.hid (QIn.old (hkB.old (Nat.le_trans hB hbr) (fun _ _ h => h)) (Nat.le_refl _) _ _ HQI.out)
      have hb7 : base ≤ wB.heap.size := Nat.le_trans hbr hkB.size
      have HC7 : Hid (CellsAt wB wr.heap.size 0 (subC x s)) := Lib.hid (CellsAt.blk HG7.out.b)
      have HBe := Lib.hid hB'
      have HQV : Hid (x.q.v s = .agg (x.q.cells s).toArray) := Lib.hid (x.q.v_cells s)
      have HIQ : Hid ((Tryz.prog.info? 59).map (·.size) = some (x.q.cells s).length) := Lib.hid (by rw [x.q.cells_length s]; kernel_rfl)
      have HR7 : Hid (BStep (.slice A6 m6.length cap6) wB (.slice A6 m6.length cap6) wB) := Lib.hid (BStep.refl _ _)
      have HNS : Hid ((encSub x).length = (inum x.id).length + (inum x.prio).length + (encQ x.q).length) := Lib.hid (by simp only [encSub, List.length_append])
      obtain ⟨M8, hM8⟩ : ∃ m, m = m6 ++ inum x.id := ⟨_, rfl⟩
      have HM8 := Lib.hid hM8
      have HN8 : Hid (M8.length = m6.length + (inum x.id).length) := Lib.hid (by rw [hM8, List.length_append])
      clear hM8
      obtain ⟨M9, hM9⟩ : ∃ m, m = M8 ++ inum x.prio := ⟨_, rfl⟩
      have HM9 := Lib.hid hM9
      have HN9 : Hid (M9.length = M8.length + (inum x.prio).length) := Lib.hid (by rw [hM9, List.length_append])
      clear hM9
      obtain ⟨M10, hM10⟩ : ∃ m, m = M9 ++ encQ x.q := ⟨_, rfl⟩
      have HM10 := Lib.hid hM10
      have HN10 : Hid (M10.length = M9.length + (encQ x.q).length) := Lib.hid (by rw [hM10, List.length_append])
      clear hM10
      have HCQ : Hid (∀ (b : Value) (w' : World), OwnB w' base 5 b M9 → BStep (.slice A6 m6.length cap6) wB b w' → base ≤ w'.heap.size → Calls Tryz.prog 113 #[b, .agg (x.q.cells s).toArray] w' (AppOk base b M10 w')) := Lib.hid (by
        intro b w' h1 h2 h3
        rw [← HQV.out]
        refine xquery_to x.q HM10.out h1 (QIn.old ((h2.old HO7.out hb7).less hB) (Nat.le_refl _) _ _ HQB.out) hB h3 HFX.out ?_
        have := HLEN.out; have := HNS.out; have := HN8.out; have := HN9.out; omega)
      clear hB' hkB hqi
      refine wp_region_held_drew (S := fun w' => CellsAt w' wr.heap.size 0 (subC x s)) (by kernel_rfl) HC7.out (fun hHeld => ?_)
      refine wpAnyH_take (i := 0) (v := .slice A6 m6.length cap6) rfl (by kernel_rfl) (by kernel_rfl) (by kernel_rfl) (fun _ _ _ h => h) (Or.inl ⟨by rfl, fun w hw => by go_simp⟩) (by assumption) ?_
      (try simp only [Act.put, List.setIfInBounds_toArray, List.set_cons_zero, List.set_cons_succ])
      refine wpAnyH_take (i := 1) (v := .pointer (some ⟨wr.heap.size, 0, none⟩)) rfl (by kernel_rfl) (by kernel_rfl) (by kernel_rfl) (fun _ _ _ h => h) (Or.inl ⟨by rfl, fun w hw => by go_simp⟩) (by assumption) ?_
      (try simp only [Act.put, List.setIfInBounds_toArray, List.set_cons_zero, List.set_cons_succ])
      refine wpAnyH_take (i := 2) (v := .int .i64 x.id) rfl (by kernel_rfl) (by kernel_rfl) (by kernel_rfl) (fun _ _ _ h => h) (Or.inl ⟨by rfl, fun w hw => by have c0 : w.cell? ⟨wr.heap.size, 0, none⟩ = some (.int .i64 x.id) := hw 0 _ rfl; clear hw; go_simp⟩) (by assumption) ?_
      (try simp only [Act.put, List.setIfInBounds_toArray, List.set_cons_zero, List.set_cons_succ])
      refine wpAnyH_take (i := 4) (v := .pointer (some ⟨wr.heap.size, 1, none⟩)) rfl (by kernel_rfl) (by kernel_rfl) (by kernel_rfl) (fun _ _ _ h => h) (Or.inl ⟨by rfl, fun w hw => by go_simp⟩) (by assumption) ?_
      (try simp only [Act.put, List.setIfInBounds_toArray, List.set_cons_zero, List.set_cons_succ])
      refine wpAnyH_take (i := 5) (v := .int .i64 x.prio) rfl (by kernel_rfl) (by kernel_rfl) (by kernel_rfl) (fun _ _ _ h => h) (Or.inl ⟨by rfl, fun w hw => by have c0 : w.cell? ⟨wr.heap.size, 1, none⟩ = some (.int .i64 x.prio) := hw 1 _ rfl; clear hw; go_simp⟩) (by assumption) ?_
      (try simp only [Act.put, List.setIfInBounds_toArray, List.set_cons_zero, List.set_cons_succ])
      refine wpAnyH_take (i := 7) (v := .pointer (some ⟨wr.heap.size, 2, none⟩)) rfl (by kernel_rfl) (by kernel_rfl) (by kernel_rfl) (fun _ _ _ h => h) (Or.inl ⟨by rfl, fun w hw => by go_simp⟩) (by assumption) ?_
      (try simp only [Act.put, List.setIfInBounds_toArray, List.set_cons_zero, List.set_cons_succ])
      refine wpAnyH_take (i := 8) (v := .agg (x.q.cells s).toArray) rfl (by kernel_rfl) (by kernel_rfl) (by kernel_rfl) (fun _ _ _ h => h) (yieldsIf_load_at (by rfl) 59 _ rfl wr.heap.size 2 rfl (x.q.cells s) _ (fun w hw => by have := CellsAt.drop 2 hw; simpa [subC] using this) Tryz.underlying59 rfl HIQ.out) (by assumption) ?_
      (try simp only [Act.put, List.setIfInBounds_toArray, List.set_cons_zero, List.set_cons_succ])
      refine wpAnyH_ready (rs := [3]) (by kernel_rfl) (by simp) ?_
      refine AllReadyH.cons rfl (fun K hK => ?_) AllReadyH.nil
      go_simp
      go_at_call 102
      refine (xnumber_to (w := wB.drew) HM8.out HO7.out HX1.out (by have := HLEN.out; omega) hb7).mono ?_
      rintro e x8 ⟨A8, cap8, rfl, ho8, hs8⟩
      have hq8 : BStep (.slice A6 m6.length cap6) wB (.slice A8 M8.length cap8) x8 := (BStep.new ((Kept.refl _ _).drew)).trans hs8
      have HR8 := Lib.hid (HR7.out.trans hq8)
      have HG8 := Lib.hid (HG7.out.step hq8)
      have HO8 := Lib.hid ho8
      have hb8 : base ≤ x8.heap.size := Nat.le_trans hb7 hq8.k.size
      clear hs8 hq8 ho8
      go_wp2_with fail
      refine hK.out _ _ ?_ (fun hHeld => ?_)
      · exact CellsAt.blk HG8.out.b
      clear hK K
      (try simp only [Act.put, List.setIfInBounds_toArray, List.set_cons_zero, List.set_cons_succ])
      refine wpAnyH_ready (rs := [6]) (by kernel_rfl) (by simp) ?_
      refine AllReadyH.cons rfl (fun K hK => ?_) AllReadyH.nil
      go_simp
      go_at_call 102
      refine (xnumber_to HM9.out HO8.out HX2.out (by have := HLEN.out; have := HN8.out; have := HNS.out; omega) hb8).mono ?_
      rintro e x9 ⟨A9, cap9, rfl, ho9, hs9⟩
      have hq9 := hs9
      have HR9 := Lib.hid (HR8.out.trans hq9)
      have HG9 := Lib.hid (HG8.out.step hq9)
      have HO9 := Lib.hid ho9
      have hb9 : base ≤ x9.heap.size := Nat.le_trans hb8 hq9.k.size
      clear hs9 hq9 ho9
      go_wp2_with fail
      refine hK.out _ _ ?_ (fun hHeld => ?_)
      · exact CellsAt.blk HG9.out.b
      clear hK K
      (try simp only [Act.put, List.setIfInBounds_toArray, List.set_cons_zero, List.set_cons_succ])
      refine wpAnyH_ready (rs := [9]) (by kernel_rfl) (by simp) ?_
      refine AllReadyH.cons rfl (fun K hK => ?_) AllReadyH.nil
      go_simp
      go_at_call 113
      refine (HCQ.out _ _ HO9.out HR9.out hb9).mono ?_
      rintro e x10 ⟨A10, cap10, rfl, ho10, hs10⟩
      have hq10 := hs10
      have HR10 := Lib.hid (HR9.out.trans hq10)
      have HG10 := Lib.hid (HG9.out.step hq10)
      have HO10 := Lib.hid ho10
      have hb10 : base ≤ x10.heap.size := Nat.le_trans hb9 hq10.k.size
      clear hs10 hq10 ho10
      go_wp2_with fail
      refine hK.out _ _ ?_ (fun hHeld => ?_)
      · exact CellsAt.blk HG10.out.b
      clear hK K
      (try simp only [Act.put, List.setIfInBounds_toArray, List.set_cons_zero, List.set_cons_succ])
      refine wpAnyH_ready (rs := [10]) (by kernel_rfl) (by simp) ?_
      refine AllReadyH.cons rfl (fun K hK => ?_) AllReadyH.nil
      go_simp
      refine hK.out _ _ ?_ (fun hHeld => ?_)
      · exact CellsAt.blk HG10.out.b
      clear hK K
      refine wpAnyH_done (by kernel_rfl) ?_ _
      have HS10 := Lib.hid (HS7.out.trans HR10.out)
      go_wp2
      go_roundw
      case rel => exact ⟨k + 1, A10, cap10, M10, by omega, by go_num, rfl, by simp only [HTK.out, HM10.out, HM9.out, HM8.out, HM6.out, encSub, List.append_assoc], HO10.out, HS10.out⟩
      case measure => simp [intOf]; omega
    · have hk9 : ¬ (k : Int) < (xs.length : Int) := by omega
      have he : m6 = l ++ encSubs xs := by rw [HM6.out, List.take_of_length_le (by omega), HLe.out]; simp only [encSubs, List.append_assoc]
      have hx : AppOk base (.slice A0 l.length cap0) (l ++ encSubs xs) w (.returned (.slice A6 m6.length cap6)) wr := by rw [← he]; exact ⟨A6, cap6, rfl, HO6.out, HS6.out⟩
      have HX := Lib.hid hx
      clear hx he
      go_wp2
      go_ret
      exact HX.out

end Go.Proofs.YtffdaohmalmkfaaGreat
