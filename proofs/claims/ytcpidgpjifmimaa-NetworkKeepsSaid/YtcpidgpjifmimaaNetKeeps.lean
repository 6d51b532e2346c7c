/-
  NetworkKeeps: for every room and every list of calls the law returns true, and changes nothing that was there.
-/
import Derived.Test.YtcpidgpjifmimaaNetD
import Derived.Test.YtcpidgpjifmimaaNetF
import Derived.Test.YtcpidgpjifmimaaNetIn
import Derived.LoopTactic
import Derived.Deep.LoopGhost
import Derived.Deep.CutBlock
namespace Go.Proofs.Ytcpidgpjifmimaa
open Go.RowKit Go.ChangeShapes Go.WideShapes Go.ChangeAt
set_option linter.unusedVariables false

def KeepsRel (w : World) (room : Int) (n : Nat) (a b l i : Value) (wr : World) : Prop :=
  ∃ (k : Nat) (x y lost : Int) (v : Value) (ps : List Pk), k ≤ n ∧ i = .int .i64 k ∧ a = .int .i64 x ∧ b = .int .i64 y ∧ l = .int .i64 lost ∧
    0 ≤ x ∧ x ≤ k ∧ 0 ≤ y ∧ y ≤ k ∧ 0 ≤ lost ∧ lost ≤ k ∧ x - y = ps.length ∧ ps.length ≤ room ∧ Kept Kno w wr ∧ Net wr w.heap.size w.heap.size v ps lost room

def KeepsMid (w : World) (room : Int) (k : Nat) (a b l : Value) (wx : World) : Prop :=
  ∃ (x y lost : Int) (v : Value) (ps : List Pk), a = .int .i64 x ∧ b = .int .i64 y ∧ l = .int .i64 lost ∧
    0 ≤ x ∧ x ≤ k + 1 ∧ 0 ≤ y ∧ y ≤ k + 1 ∧ 0 ≤ lost ∧ lost ≤ k + 1 ∧ x - y = ps.length ∧ ps.length ≤ room ∧ Kept Kno w wx ∧ Net wx w.heap.size w.heap.size v ps lost room

theorem Bs.cut {w : World} {A : Option Addr} {cap m : Nat} {l : List UInt8} (h : Bs w (.slice A l.length cap) l) (hm : m ≤ l.length) : Bs w (.slice A m cap) (l.take m) := by
  obtain ⟨A', cap', hv, h1, h2, h3, h4⟩ := h
  have e : (l.take m).length = m := by rw [List.length_take]; omega
  injection hv with hA hn hc
  subst hA hc
  refine ⟨A, cap, by rw [e], by rw [e]; omega, by rw [List.length_map]; omega, fun hA => ?_, fun ad hA j u hj => h4 ad hA j u ?_⟩
  · have := h3 hA; rw [e]; omega
  · rw [List.map_take, List.getElem?_take] at hj
    split at hj
    · exact hj
    · cases hj

theorem min_nat (n b : Nat) : ∃ m : Nat, (if (b : Int) < (n : Int) then (b : Int) else (n : Int)) = (m : Int) ∧ m ≤ n ∧ m ≤ b := by
  by_cases h : (b : Int) < (n : Int)
  · exact ⟨b, by rw [if_pos h], by omega, by omega⟩
  · exact ⟨n, by rw [if_neg h], by omega, by omega⟩

/-- A store into another block of a message leaves a network as it is. -/
theorem net_other {w : World} {base B q : Nat} {v a b : Value} {ps : List Pk} {lost room : Int} {cs : Array Value} (h : Net w base B v ps lost room) (hq : Blk w q 44 cs) (hB : q ≠ B) (hv : v.ownBlock ≠ some q) :
    Net ((w.setCell ⟨q, 0, none⟩ a).setCell ⟨q, 1, none⟩ b) base B v ps lost room := by
  have hk : Kept (Kone q) w ((w.setCell ⟨q, 0, none⟩ a).setCell ⟨q, 1, none⟩ b) :=
    Kept.setIn (S := Kone q) (p := ⟨q, 1, none⟩) (Kept.setIn (S := Kone q) (p := ⟨q, 0, none⟩) (Kept.refl _ _) (Eq.refl q) _) (Eq.refl q) _
  refine h.kept hk ?_ ?_ ?_
  · intro e; unfold Kone at e; omega
  · intro k hk' e; unfold Kone at e; subst e; exact hv hk'
  · intro p hp k hk' e; unfold Kone at e; subst e; exact own_blk_ne (h.2.2.2 p hp).1 hq (by decide) hk'

set_option maxRecDepth 100000 in
set_option maxHeartbeats 4000000 in
theorem keeps_walk (r : Int) (hr0 : 0 ≤ r) (hr1 : r ≤ 255) (cv : Value) (cs : List CallD) (w : World) (hin : CallsIn w cv cs) :
    Calls Try.prog 4 #[.int .u8 r, cv] w (RetNew (.bool true) w) := by
  obtain ⟨A, cap, rfl, hlc, hcm, hnil, hcells⟩ := hin
  have HC := Lib.hid hcells
  have HNil := Lib.hid hnil
  have m4 : cap ≤ 9223372036854775807 := by simp only [maxLen] at hcm; omega
  clear hcells hnil hcm
  go_enter Try.func4, Try.ntmps4
  go_wp2_with fail
  refine (new_ok (1 + r) _ (by omega) (by omega)).mono ?_
  rintro e w1 ⟨rfl, hw1⟩
  have hk1 : Kept Kno w w1 := by rw [hw1]; exact (Kept.refl _ _).alloc _
  have hn1 : Net w1 w.heap.size w.heap.size (.slice none 0 0) [] 0 (1 + r) := by rw [hw1]; exact net_new w _ (1 + r) (Nat.le_refl _)
  have HN1 := Lib.hid hn1
  clear hw1 hn1
  go_upto_region 6 with fail
  go_cut [35, 36, 37] (fun s l i wx => ∃ n : Nat, n ≤ 300 ∧ n ≤ cs.length ∧ s = .slice A n cap ∧ l = .int .i64 n ∧ i = .int .i64 0 ∧ w1 = wx)
  case first =>
    by_cases h300 : (cs.length : Int) ≤ 300
    · go_wp2_with fail
      go_meet
      exact ⟨cs.length, by omega, Nat.le_refl _, rfl, rfl, rfl, rfl⟩
    · have h301 : 300 < (cs.length : Int) := by omega
      go_wp2_with fail
      go_meet
      exact ⟨300, by omega, by omega, rfl, rfl, rfl, rfl⟩
  case rest =>
    obtain ⟨n, hn1, hn2, rfl, rfl, rfl, rfl⟩ := hcut
    go_wp2_with fail
    go_loopg [8, 9, 10, 37] n (fun g a b l i wr => g + (intOf i).toNat = n ∧ KeepsRel w (1 + r) n a b l i wr)
    case atStart => exact ⟨rfl, 0, 0, 0, 0, _, [], Nat.zero_le _, rfl, rfl, rfl, rfl, by omega, by omega, by omega, by omega, by omega, by omega, rfl, by simp; omega, hk1, HN1.out⟩
    case round =>
      obtain ⟨hg, k, x, y, lost, v, ps, hkn, rfl, rfl, rfl, rfl, hx0, hx1, hy0, hy1, hl0, hl1, hxy, hpr, hkr, hnet⟩ := hrel
      have HG := Lib.hid hg
      have HN := Lib.hid hnet
      have HXY := Lib.hid hxy
      clear hg hnet hxy
      by_cases hkl : k < n
      · have hklt : (k : Int) < (n : Int) := by omega
        have hk0 : (0 : Int) ≤ (k : Int) := by omega
        obtain ⟨c, hc⟩ : ∃ c, cs[k]? = some c := ⟨cs[k]'(by omega), List.getElem?_eq_getElem (by omega)⟩
        obtain ⟨g, o, rfl, hcat⟩ := HC.out (by omega)
        have hca := (hcat k c hc).kept hkr
        obtain ⟨c0, c1, c2, c3, hbs, hll⟩ := hca
        have HBS := Lib.hid hbs
        obtain ⟨Ab, capb, hb, hb1, hb2, hb3, hb4⟩ := hbs
        rw [hb] at c3
        have HB := Lib.hid hb
        clear hb hb2 hb3 hb4 hcat hc
        have n60 : c.l.length ≤ 9223372036854775807 := by simp only [maxLen] at hll; omega
        obtain ⟨Av, capv, hv⟩ := own_form HN.out.2.2.1
        subst hv
        go_wp2_with fail
        have hka : Kept Kno w (wr.alloc (.cells #[.int .i64 c.kind, .int .i64 c.dst, .int .i64 c.idx, .slice Ab c.l.length capb] 41)) := hkr.alloc _
        have hna := HN.out.kept0 ((Kept.refl Kno wr).alloc (.cells #[.int .i64 c.kind, .int .i64 c.dst, .int .i64 c.idx, .slice Ab c.l.length capb] 41))
        have hba := Rd.alloc HBS.out (.cells #[.int .i64 c.kind, .int .i64 c.dst, .int .i64 c.idx, .slice Ab c.l.length capb] 41)
        have hqa := Blk.new wr 41 #[.int .i64 c.kind, .int .i64 c.dst, .int .i64 c.idx, .slice Ab c.l.length capb]
        have hqs : w.heap.size < wr.heap.size := HN.out.2.1.lt
        clear c0 c1 c2 c3 HN HBS hkr
        generalize (wr.alloc (.cells #[.int .i64 c.kind, .int .i64 c.dst, .int .i64 c.idx, .slice Ab c.l.length capb] 41)) = wa at *
        have HNA := Lib.hid hna
        have HBA := Lib.hid hba
        have HQA := Lib.hid hqa
        have b0 : wa.cell? ⟨w.heap.size, 0, none⟩ = some (.slice Av ps.length capv) := hna.2.1.cell 0
        have e0 : wa.cell? ⟨wr.heap.size, 0, none⟩ = some (.int .i64 c.kind) := hqa.cell 0
        have e1 : wa.cell? ⟨wr.heap.size, 1, none⟩ = some (.int .i64 c.dst) := hqa.cell 1
        have e2 : wa.cell? ⟨wr.heap.size, 2, none⟩ = some (.int .i64 c.idx) := hqa.cell 2
        have e3 : wa.cell? ⟨wr.heap.size, 3, none⟩ = some (.slice Ab c.l.length capb) := hqa.cell 3
        clear hna hba hqa
        have hcall := own_blk_ne HNA.out.2.2.1 HQA.out (by decide)
        have nk : ¬ NK w.heap.size (.slice Av ps.length capv) wr.heap.size := fun h => by
          rcases h with h | h
          · omega
          · exact hcall h
        have NKH := Lib.hid nk
        have KOH := Lib.hid (show ¬ Kone w.heap.size wr.heap.size from fun h => by unfold Kone at h; omega)
        have hbase : w.heap.size ≤ wa.drew.heap.size := hka.size
        have hnd : Net wa.drew w.heap.size w.heap.size (.slice Av ps.length capv) ps lost (1 + r) := HNA.out
        have HND := Lib.hid hnd
        clear hnd
        have hnl : ps.length ≤ 1000000 := by omega
        clear hcall nk
        have hne : Net (wa.alloc (.cells #[.int .i64 0, .slice none 0 0] 44)).drew w.heap.size w.heap.size (.slice Av ps.length capv) ps lost (1 + r) := HNA.out.kept0 ((Kept.refl _ _).alloc _).drew
        have HNE := Lib.hid hne
        have b1 : (wa.alloc (.cells #[.int .i64 0, .slice none 0 0] 44)).drew.cell? ⟨w.heap.size, 0, none⟩ = some (.slice Av ps.length capv) := hne.2.1.cell 0
        have HB0 := Lib.hid (show wa.drew.cell? ⟨w.heap.size, 0, none⟩ = some (.slice Av ps.length capv) from b0)
        have HB1 := Lib.hid b1
        have HBQ := Lib.hid ((Blk.new wa 44 #[.int .i64 0, .slice none 0 0]).drew)
        have NKQ := Lib.hid (show ¬ NK w.heap.size (.slice Av ps.length capv) wa.heap.size from fun h => by
          rcases h with h | h
          · have := HNA.out.2.1.lt; omega
          · have := (own_base HNA.out.2.2.1 h).2; omega)
        have lqa : wr.heap.size < wa.heap.size := HQA.out.lt
        have lq1 : ¬ wr.heap.size = wa.heap.size := by omega
        have lq2 : ¬ wa.heap.size = wr.heap.size := by omega
        clear b1 hne
        obtain ⟨fb, hfb⟩ : ∃ fb : Bool, ((ps.length : Int) == 1 + r) = fb := ⟨_, rfl⟩
        refine (len_any _ _ ps.length capv Av _ b0).mono ?_
        rintro e w' ⟨rfl, rfl⟩
        go_upto_block 2 with fail
        go_cut [8, 9, 10] (fun a b l wx => KeepsMid w (1 + r) k a b l wx)
        case first =>
          by_cases hk1 : c.kind = 1
          · have t1 : (c.kind == 1) = true := by simpa using hk1
            clear hk1
            have hbb : Bs wa.drew (.slice Ab c.l.length capb) c.l := HB.out ▸ HBA.out
            obtain ⟨m, hmin, hm1, hm2⟩ : ∃ m : Nat, (if (60 : Int) < (c.l.length : Int) then (60 : Int) else (c.l.length : Int)) = (m : Int) ∧ m ≤ c.l.length ∧ m ≤ 60 := min_nat c.l.length 60
            have g1 : (0 : Int) ≤ (m : Int) := Int.natCast_nonneg _
            have g2 : (m : Int) ≤ (capb : Int) := by omega
            have g3 : m ≤ capb := by omega
            have HBB := Lib.hid hbb
            clear hbb
            cases fb with
            | false =>
              have hr' : (ps.length : Int) < 1 + r := by have : (ps.length : Int) ≠ 1 + r := by simpa using hfb
                                                         omega
              · go_wp2_with fail
                go_region_held3 (fun w' => w'.cell? ⟨wr.heap.size, 1, none⟩ = some (.int .i64 c.dst) ∧ w'.cell? ⟨wr.heap.size, 3, none⟩ = some (.slice Ab c.l.length capb)) (first | go_keep | exact ⟨z1, z3⟩)
                  (first
                   | (go_at_call 13; refine (send_yes w.heap.size w.heap.size _ _ ps lost (1 + r) c.dst _ _ HND.out (Bs.cut HBB.out hm1) ?_ hbase hnl hr').mono ?_; (rw [List.length_take]; omega); rintro e wb ⟨rfl, v2, p2, hp1, hp2, hn2, hk2, hm2, hq2⟩; have z1 := hk2.cell_some e1 NKH.out; have z3 := hk2.cell_some e3 NKH.out))
                go_wp2_with fail
                go_meet
                have hxy := HXY.out
                exact ⟨x + 1, y, lost, v2, ps ++ [p2], rfl, rfl, rfl, by omega, by omega, by omega, by omega, by omega, by omega, by simp; omega, by simp; omega, kept_net hka.drew HND.out (Nat.le_refl _) hk2, hn2⟩
            | true =>
              have hr' : 1 + r ≤ (ps.length : Int) := by have : (ps.length : Int) = 1 + r := by simpa using hfb
                                                         omega
              · go_wp2_with fail
                go_region_held3 (fun w' => w'.cell? ⟨wr.heap.size, 1, none⟩ = some (.int .i64 c.dst) ∧ w'.cell? ⟨wr.heap.size, 3, none⟩ = some (.slice Ab c.l.length capb)) (first | go_keep | exact ⟨z1, z3⟩)
                  (first
                   | (go_at_call 13; refine (send_no w.heap.size w.heap.size _ _ ps lost (1 + r) c.dst _ HND.out hl0 ?_ hr').mono ?_; omega; rintro e wb ⟨rfl, hn2, hk2⟩; have z1 := hk2.cell_some e1 KOH.out; have z3 := hk2.cell_some e3 KOH.out))
                go_wp2_with fail
                go_meet
                have hxy := HXY.out
                exact ⟨x, y, lost + 1, _, ps, rfl, rfl, rfl, by omega, by omega, by omega, by omega, by omega, by omega, hxy, hpr, kept_one hka.drew (Nat.le_refl _) hk2, hn2⟩
          · have t1 : (c.kind == 1) = false := by simpa using hk1
            clear hk1
            by_cases hk2 : c.kind = 2
            · have t2 : (c.kind == 2) = true := by simpa using hk2
              clear hk2
              by_cases hidx : 0 ≤ c.idx ∧ c.idx < ps.length
              · obtain ⟨hi0, hi1⟩ := hidx
                obtain ⟨i, hi⟩ := Int.eq_ofNat_of_zero_le hi0
                have hip : i < ps.length := by omega
                rw [hi] at e2
                have HP := Lib.hid (List.getElem?_eq_getElem hip)
                clear hi hi0 hi1
                generalize ps[i] = p at HP
                go_wp2_with fail
                go_region_held3 (fun w' => w'.cell? ⟨wr.heap.size, 2, none⟩ = some (.int .i64 i)) (first | go_keep | exact z2)
                  (first
                   | (go_at_call 14; refine (take_yes w.heap.size w.heap.size i _ ps p lost (1 + r) _ HND.out HP.out hnl).mono ?_; rintro e wb ⟨A2, cap2, v2, rfl, ho2, hn2, hk2, hm2⟩; have z2 := hk2.cell_some e2 NKH.out)
                   | (go_at_call 14; refine (take_yes w.heap.size w.heap.size i _ ps p lost (1 + r) _ HNE.out HP.out hnl).mono ?_; rintro e wb ⟨A2, cap2, v2, rfl, ho2, hn2, hk2, hm2⟩; have z2 := hk2.cell_some (((Kept.refl Kno wa).alloc _).cell_some e2 (fun h => h)) NKH.out
                      have hbq := HBQ.out.kept hk2 NKQ.out
                      have z4 : wb.cell? ⟨wa.heap.size, 0, none⟩ = some (.int .i64 0) := hbq.cell 0
                      have z5 : wb.cell? ⟨wa.heap.size, 1, none⟩ = some (.slice none 0 0) := hbq.cell 1
                      have z6 := hbq.frozen 0
                      have z7 := hbq.frozen 1
                      have HBQ2 := Lib.hid hbq
                      clear hbq))
                · go_wp2_with fail
                  go_meet
                  have hxy := HXY.out
                  exact ⟨x, y + 1, lost, v2, ps.eraseIdx i, rfl, rfl, rfl, by omega, by omega, by omega, by omega, by omega, by omega, by rw [List.length_eraseIdx, if_pos hip]; omega, by rw [List.length_eraseIdx, if_pos hip]; omega, (kept_net hka.drew HND.out (Nat.le_refl _) hk2).alloc _, hn2.kept0 ((Kept.refl _ _).alloc _)⟩
                · go_wp2_with fail
                  go_meet
                  have hxy := HXY.out
                  refine ⟨x, y + 1, lost, v2, ps.eraseIdx i, rfl, rfl, rfl, by omega, by omega, by omega, by omega, by omega, by omega, by rw [List.length_eraseIdx, if_pos hip]; omega, by rw [List.length_eraseIdx, if_pos hip]; omega, ((kept_net (hka.alloc _).drew HNE.out (Nat.le_refl _) hk2).setNew ?_ _).setNew ?_ _, net_other hn2 HBQ2.out ?_ ?_⟩
                  · exact hbase
                  · exact hbase
                  · omega
                  · rw [hm2]; intro e; exact NKQ.out (.inr e)
              · have hidx' : c.idx < 0 ∨ (ps.length : Int) ≤ c.idx := by omega
                go_wp2_with fail
                go_region_held3 (fun w' => w'.cell? ⟨wr.heap.size, 2, none⟩ = some (.int .i64 c.idx)) (first | go_keep | exact z2)
                  (first
                   | (go_at_call 14; refine (take_no w.heap.size ps.length capv Av c.idx _ HB0.out hidx').mono ?_; rintro e wb ⟨rfl, hk2⟩; have z2 := hk2.cell_some e2 (fun h => h))
                   | (go_at_call 14; refine (take_no w.heap.size ps.length capv Av c.idx _ HB1.out hidx').mono ?_; rintro e wb ⟨rfl, hk2⟩; have z2 := hk2.cell_some (((Kept.refl Kno wa).alloc _).cell_some e2 (fun h => h)) (fun h => h)
                      have hbq := HBQ.out.kept hk2 (fun h => h)
                      have z4 : wb.cell? ⟨wa.heap.size, 0, none⟩ = some (.int .i64 0) := hbq.cell 0
                      have z5 : wb.cell? ⟨wa.heap.size, 1, none⟩ = some (.slice none 0 0) := hbq.cell 1
                      have z6 := hbq.frozen 0
                      have z7 := hbq.frozen 1
                      have HBQ2 := Lib.hid hbq
                      clear hbq))
                · go_wp2_with fail
                  go_meet
                  have hxy := HXY.out
                  exact ⟨x, y, lost, _, ps, rfl, rfl, rfl, by omega, by omega, by omega, by omega, by omega, by omega, hxy, hpr, (hka.drew.then0 hk2).alloc _, (HND.out.kept0 hk2).kept0 ((Kept.refl _ _).alloc _)⟩
                · go_wp2_with fail
                  go_meet
                  have hxy := HXY.out
                  refine ⟨x, y, lost, _, ps, rfl, rfl, rfl, by omega, by omega, by omega, by omega, by omega, by omega, hxy, hpr, (((hka.alloc _).drew.then0 hk2).setNew ?_ _).setNew ?_ _, net_other (HNE.out.kept0 hk2) HBQ2.out ?_ ?_⟩
                  · exact hbase
                  · exact hbase
                  · omega
                  · intro e; exact NKQ.out (.inr e)
            · have t2 : (c.kind == 2) = false := by simpa using hk2
              clear hk2
              by_cases hk3 : c.kind = 3
              · have t3 : (c.kind == 3) = true := by simpa using hk3
                clear hk3
                by_cases hidx : 0 ≤ c.idx ∧ c.idx < ps.length
                · obtain ⟨hi0, hi1⟩ := hidx
                  obtain ⟨i, hi⟩ := Int.eq_ofNat_of_zero_le hi0
                  have hip : i < ps.length := by omega
                  rw [hi] at e2
                  clear hi hi0 hi1
                  go_wp2_with fail
                  go_region_held3 (fun w' => w'.cell? ⟨wr.heap.size, 2, none⟩ = some (.int .i64 i)) (first | go_keep | exact z2)
                    (first
                     | (go_at_call 15; refine (drop_yes w.heap.size w.heap.size i _ ps lost (1 + r) _ HND.out hip hnl).mono ?_; rintro e wb ⟨rfl, v2, hn2, hk2, hm2⟩; have z2 := hk2.cell_some e2 NKH.out))
                  go_wp2_with fail
                  go_meet
                  have hxy := HXY.out
                  exact ⟨x, y + 1, lost, v2, ps.eraseIdx i, rfl, rfl, rfl, by omega, by omega, by omega, by omega, by omega, by omega, by rw [List.length_eraseIdx, if_pos hip]; omega, by rw [List.length_eraseIdx, if_pos hip]; omega, kept_net hka.drew HND.out (Nat.le_refl _) hk2, hn2⟩
                · have hidx' : c.idx < 0 ∨ (ps.length : Int) ≤ c.idx := by omega
                  go_wp2_with fail
                  go_region_held3 (fun w' => w'.cell? ⟨wr.heap.size, 2, none⟩ = some (.int .i64 c.idx)) (first | go_keep | exact z2)
                    (first
                     | (go_at_call 15; refine (drop_no w.heap.size ps.length capv Av c.idx _ HB0.out hidx').mono ?_; rintro e wb ⟨rfl, rfl⟩; have z2 := e2))
                  go_wp2_with fail
                  go_meet
                  have hxy := HXY.out
                  exact ⟨x, y, lost, _, ps, rfl, rfl, rfl, by omega, by omega, by omega, by omega, by omega, by omega, hxy, hpr, hka.drew, HND.out⟩
              · have t3 : (c.kind == 3) = false := by simpa using hk3
                clear hk3
                by_cases hk4 : c.kind = 4
                · have t4 : (c.kind == 4) = true := by simpa using hk4
                  clear hk4
                  by_cases hidx : 0 ≤ c.idx ∧ c.idx < ps.length
                  · obtain ⟨hi0, hi1⟩ := hidx
                    obtain ⟨i, hi⟩ := Int.eq_ofNat_of_zero_le hi0
                    have hip : i < ps.length := by omega
                    rw [hi] at e2
                    have HP := Lib.hid (List.getElem?_eq_getElem hip)
                    clear hi hi0 hi1
                    generalize ps[i] = p at HP
                    cases fb with
                    | false =>
                      have hr' : (ps.length : Int) < 1 + r := by have : (ps.length : Int) ≠ 1 + r := by simpa using hfb
                                                                 omega
                      go_wp2_with fail
                      refine (double_yes w.heap.size w.heap.size i _ ps p lost (1 + r) _ HNA.out HP.out hbase hnl hr').mono ?_
                      rintro e wb ⟨rfl, v2, p2, hp1, hp2, hn2, hk2, hm2, hq2⟩
                      go_wp2_with fail
                      go_meet
                      have hxy := HXY.out
                      exact ⟨x + 1, y, lost, v2, ps ++ [p2], rfl, rfl, rfl, by omega, by omega, by omega, by omega, by omega, by omega, by simp; omega, by simp; omega, kept_net hka HNA.out (Nat.le_refl _) hk2, hn2⟩
                    | true =>
                      have hr' : 1 + r ≤ (ps.length : Int) := by have : (ps.length : Int) = 1 + r := by simpa using hfb
                                                                 omega
                      go_wp2_with fail
                      refine (double_full w.heap.size w.heap.size i _ ps p lost (1 + r) _ HNA.out HP.out hnl hr').mono ?_
                      rintro e wb ⟨rfl, hk2⟩
                      go_wp2_with fail
                      go_meet
                      have hxy := HXY.out
                      exact ⟨x, y, lost, _, ps, rfl, rfl, rfl, by omega, by omega, by omega, by omega, by omega, by omega, hxy, hpr, hka.then0 hk2, HNA.out.kept0 hk2⟩
                  · have hidx' : c.idx < 0 ∨ (ps.length : Int) ≤ c.idx := by omega
                    go_wp2_with fail
                    refine (double_out w.heap.size w.heap.size _ ps lost (1 + r) c.idx _ HNA.out hidx').mono ?_
                    rintro e wb ⟨rfl, hk2⟩
                    go_wp2_with fail
                    go_meet
                    have hxy := HXY.out
                    exact ⟨x, y, lost, _, ps, rfl, rfl, rfl, by omega, by omega, by omega, by omega, by omega, by omega, hxy, hpr, hka.then0 hk2, HNA.out.kept0 hk2⟩
                · have t4 : (c.kind == 4) = false := by simpa using hk4
                  clear hk4
                  go_wp2_with fail
                  go_meet
                  have hxy := HXY.out
                  exact ⟨x, y, lost, _, ps, rfl, rfl, rfl, by omega, by omega, by omega, by omega, by omega, by omega, hxy, hpr, hka, HNA.out⟩
        case rest =>
          obtain ⟨x', y', lost', v', ps', rfl, rfl, rfl, gx0, gx1, gy0, gy1, gl0, gl1, gxy, gpr, gk', gn⟩ := hcut
          obtain ⟨Av', capv', hv'⟩ := own_form gn.2.2.1
          subst hv'
          have j0 : wc.cell? ⟨w.heap.size, 0, none⟩ = some (.slice Av' ps'.length capv') := gn.2.1.cell 0
          have j1 : wc.cell? ⟨w.heap.size, 1, none⟩ = some (.int .i64 lost') := gn.2.1.cell 1
          have j2 : ((ps'.length : Int) != x' - y') = false := by simp; omega
          have j3 : ¬ (1 + r < (ps'.length : Int)) := by omega
          have GXY := Lib.hid gxy
          have GN := Lib.hid gn
          clear gxy gn b0 e0 e1 e2 e3
          go_wp2_with fail
          refine (len_any _ _ ps'.length capv' Av' _ j0).mono ?_
          rintro e w' ⟨rfl, rfl⟩
          go_wp2_with fail
          refine (lost_any _ lost' _ j1).mono ?_
          rintro e w' ⟨rfl, rfl⟩
          go_wp2_with fail
          refine (len_any _ _ ps'.length capv' Av' _ j0).mono ?_
          rintro e w' ⟨rfl, rfl⟩
          go_wp2_with fail
          have hg := HG.out
          simp [intOf] at hg
          go_roundg (gk - 1)
          case measure => omega
          case rel => exact ⟨by simp [intOf]; omega, k + 1, x', y', lost', _, ps', by omega, by go_num, rfl, rfl, rfl, by omega, by omega, by omega, by omega, by omega, by omega, GXY.out, gpr, gk', GN.out⟩
      · have hkn' : ¬ (k : Int) < (n : Int) := by omega
        go_wp2_with fail
        refine (begun_any _).mono ?_
        rintro e w2 ⟨rfl, hk2⟩
        go_wp2
        go_ret
        exact ⟨rfl, hkr.then0 hk2⟩

theorem u8_bounds {r : Int} (h : (Lit.int .u8 r).wf = true) : 0 ≤ r ∧ r ≤ 255 := by simpa [Lit.wf, IntKind.min, IntKind.max, IntKind.signed, IntKind.bits] using h

theorem keeps_final (r : Int) (cv : Value) (cs : List CallD) (w : World) (hr : (Lit.int .u8 r).wf = true) (hin : CallsIn w cv cs) :
    Calls Try.prog 4 #[.int .u8 r, cv] w (RetNew (.bool true) w) :=
  keeps_walk r (u8_bounds hr).1 (u8_bounds hr).2 cv cs w hin
end Go.Proofs.Ytcpidgpjifmimaa
