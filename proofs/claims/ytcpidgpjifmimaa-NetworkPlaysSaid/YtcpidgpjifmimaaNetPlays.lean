/-
  NetworkPlays: the walk: for every room and every list of calls the law returns true, and changes nothing that was there.
-/
import Derived.Test.YtcpidgpjifmimaaNetK
import Derived.Test.YtcpidgpjifmimaaNetG
import Derived.Test.YtcpidgpjifmimaaNetJ
import Derived.Test.YtcpidgpjifmimaaNetIn
import Derived.Test.YtcpidgpjifmimaaNetRooms
import Derived.Deep.CutBlock
namespace Go.Proofs.Ytcpidgpjifmimaa
open Go.RowKit Go.ChangeShapes Go.WideShapes Go.ChangeAt
set_option linter.unusedVariables false

def PlayRel (w : World) (C : Nat) (room : Int) (n : Nat) (i : Value) (wr : World) : Prop :=
  ∃ (k : Nat) (lost : Int) (v u : Value) (ps qs : List Pk), k ≤ n ∧ i = .int .i64 k ∧ 0 ≤ lost ∧ lost ≤ k ∧ ps.length ≤ room ∧ Kept Kno w wr ∧ Both wr w.heap.size w.heap.size C v u ps qs lost room

def PlayMid (w : World) (C : Nat) (room : Int) (k : Nat) (wx : World) : Prop :=
  ∃ (lost : Int) (v u : Value) (ps qs : List Pk), 0 ≤ lost ∧ lost ≤ k + 1 ∧ ps.length ≤ room ∧ Kept Kno w wx ∧ Both wx w.heap.size w.heap.size C v u ps qs lost room

/-- What a Take or a Look of the network leaves, whatever the order: the message lies in block x. -/
def GotMid (w : World) (q C : Nat) (room idx : Int) (u : Value) (ps qs : List Pk) (lost : Int) (d : Int) (l : List UInt8) (ok : Bool) (s t : Value) (wx : World) : Prop :=
  ∃ (x : Nat) (A : Option Addr) (cap : Nat) (v : Value), s = .pointer (some ⟨x, 0, none⟩) ∧ t = .bool ok ∧ Kept Kno w wx ∧ Net wx w.heap.size w.heap.size v ps lost room ∧ RNet wx w.heap.size C u qs lost room ∧ Apart v u ∧
    Blk wx x 44 #[.int .i64 d, .slice A l.length cap] ∧ OwnB wx 0 5 (.slice A l.length cap) l ∧ wx.cell? ⟨q, 2, none⟩ = some (.int .i64 idx) ∧ u.ownBlock ≠ some x

theorem rnet_other {w : World} {base B q : Nat} {v a b : Value} {ps : List Pk} {gone room : Int} {cs : Array Value} (h : RNet w base B v ps gone room) (hq : Blk w q 44 cs) (hv : v.ownBlock ≠ some q) :
    RNet ((w.setCell ⟨q, 0, none⟩ a).setCell ⟨q, 1, none⟩ b) base B v ps gone room := by
  have hk : Kept (Kone q) w ((w.setCell ⟨q, 0, none⟩ a).setCell ⟨q, 1, none⟩ b) :=
    Kept.setIn (S := Kone q) (p := ⟨q, 1, none⟩) (Kept.setIn (S := Kone q) (p := ⟨q, 0, none⟩) (Kept.refl _ _) (Eq.refl q) _) (Eq.refl q) _
  refine h.kept hk ?_ ?_ ?_
  · intro e; unfold Kone at e; subst e; exact (Blk.ne_ h.2.1 hq (by decide)) rfl
  · intro k hk' e; unfold Kone at e; subst e; exact hv hk'
  · intro p hp k hk' e; unfold Kone at e; subst e; exact own_blk_ne (h.2.2.2 p hp).1 hq (by decide) hk'
theorem net_other {w : World} {base B q : Nat} {v a b : Value} {ps : List Pk} {lost room : Int} {cs : Array Value} (h : Net w base B v ps lost room) (hq : Blk w q 44 cs) (hv : v.ownBlock ≠ some q) :
    Net ((w.setCell ⟨q, 0, none⟩ a).setCell ⟨q, 1, none⟩ b) base B v ps lost room := by
  have hk : Kept (Kone q) w ((w.setCell ⟨q, 0, none⟩ a).setCell ⟨q, 1, none⟩ b) :=
    Kept.setIn (S := Kone q) (p := ⟨q, 1, none⟩) (Kept.setIn (S := Kone q) (p := ⟨q, 0, none⟩) (Kept.refl _ _) (Eq.refl q) _) (Eq.refl q) _
  refine h.kept hk ?_ ?_ ?_
  · intro e; unfold Kone at e; subst e; exact (Blk.ne_ h.2.1 hq (by decide)) rfl
  · intro k hk' e; unfold Kone at e; subst e; exact hv hk'
  · intro p hp k hk' e; unfold Kone at e; subst e; exact own_blk_ne (h.2.2.2 p hp).1 hq (by decide) hk'

theorem ownB_zero {w : World} {base : Nat} {t : TypeId} {v : Value} {l : List UInt8} (h : OwnB w base t v l) : OwnB w 0 t v l := own_rebase h (fun _ _ => Nat.zero_le _)
theorem ownB_nil (w : World) (base : Nat) (t : TypeId) : OwnB w base t (.slice none 0 0) [] := World.ownsRow_nil _ _ _ _

/-- The message got, in the order 'call, then the new block'. -/
theorem got_call {w wa wb : World} {q C : Nat} {room idx lost d : Int} {u v : Value} {ps qs : List Pk} {l : List UInt8} {ok : Bool} {A : Option Addr} {cap : Nat}
    (hk : Kept Kno w wb) (hn : Net wb w.heap.size w.heap.size v ps lost room) (hr : RNet wb w.heap.size C u qs lost room) (ha : Apart v u) (ho : OwnB wb 0 5 (.slice A l.length cap) l) (hc : wb.cell? ⟨q, 2, none⟩ = some (.int .i64 idx)) :
    GotMid w q C room idx u ps qs lost d l ok (.pointer (some ⟨wb.heap.size, 0, none⟩)) (.bool ok) (wb.alloc (.cells #[.int .i64 d, .slice A l.length cap] 44)) :=
  ⟨wb.heap.size, A, cap, v, rfl, rfl, hk.alloc _, hn.kept0 ((Kept.refl _ _).alloc _), hr.kept0 ((Kept.refl _ _).alloc _), ha, Blk.new _ _ _, World.ownsRow.alloc ho _, ((Kept.refl Kno wb).alloc _).cell_some hc (fun h => h),
    fun e => by have := (own_base hr.2.2.1 e).2; omega⟩
/-- .. and in the other order. -/
theorem got_alloc {w wb : World} {q C x : Nat} {room idx lost d : Int} {u v : Value} {ps qs : List Pk} {l : List UInt8} {ok : Bool} {A : Option Addr} {cap : Nat} {a0 b0 : Value}
    (hk : Kept Kno w wb) (hn : Net wb w.heap.size w.heap.size v ps lost room) (hr : RNet wb w.heap.size C u qs lost room) (ha : Apart v u) (ho : OwnB wb 0 5 (.slice A l.length cap) l) (hc : wb.cell? ⟨q, 2, none⟩ = some (.int .i64 idx))
    (hx : Blk wb x 44 #[a0, b0]) (hxw : w.heap.size ≤ x) (hxq : q ≠ x) (hu : u.ownBlock ≠ some x) (hv : v.ownBlock ≠ some x) :
    GotMid w q C room idx u ps qs lost d l ok (.pointer (some ⟨x, 0, none⟩)) (.bool ok) ((wb.setCell ⟨x, 0, none⟩ (.int .i64 d)).setCell ⟨x, 1, none⟩ (.slice A l.length cap)) := by
  have hb : Blk ((wb.setCell ⟨x, 0, none⟩ (.int .i64 d)).setCell ⟨x, 1, none⟩ (.slice A l.length cap)) x 44 #[.int .i64 d, .slice A l.length cap] := by
    exact (hx.set_ 0 (.int .i64 d)).set_ 1 (.slice A l.length cap)
  exact ⟨x, A, cap, v, rfl, rfl, (hk.setNew hxw _).setNew hxw _, net_other hn hx hv, rnet_other hr hx hu, ha, hb, own_far (own_far ho (own_blk_ne ho hx (by decide)) _) (own_blk_ne ho hx (by decide)) _,
    by rw [World.cell?_setCell_other _ _ _ _ (by intro e; injection e with e; exact hxq e.symm), World.cell?_setCell_other _ _ _ _ (by intro e; injection e with e; exact hxq e.symm)]; exact hc, hu⟩

set_option maxRecDepth 100000 in
set_option maxHeartbeats 8000000 in
theorem plays_walk (r : Int) (hr0 : 0 ≤ r) (hr1 : r ≤ 255) (cv : Value) (cs : List CallD) (w : World) (hin : CallsIn w cv cs) :
    Calls Try.prog 6 #[.int .u8 r, cv] w (RetNew (.bool true) w) := by
  obtain ⟨A, cap, rfl, hlc, hcm, hnil, hcells⟩ := hin
  have HC := Lib.hid hcells
  have m4 : cap ≤ 9223372036854775807 := by simp only [maxLen] at hcm; omega
  have hmin : (if (300 : Int) < (cs.length : Int) then (300 : Int) else (cs.length : Int)) = ((min cs.length 300 : Nat) : Int) := min_natw cs.length 300
  have hn1 : min cs.length 300 ≤ 300 := Nat.min_le_right _ _
  have hn2 : min cs.length 300 ≤ cs.length := Nat.min_le_left _ _
  generalize min cs.length 300 = n at hmin hn1 hn2
  have hn3 : n ≤ cap := by omega
  have hn4 : (n : Int) ≤ (cap : Int) := by omega
  have hn5 : (0 : Int) ≤ (n : Int) := by omega
  clear hcells hnil hcm
  go_enter Try.func6, Try.ntmps6
  go_wp2_with fail
  refine (new_ok (1 + r) _ (by omega) (by omega)).mono ?_
  rintro e w1 ⟨rfl, hw1⟩
  have hk1 : Kept Kno w w1 := by rw [hw1]; exact (Kept.refl _ _).alloc _
  have hnet1 : Net w1 w.heap.size w.heap.size (.slice none 0 0) [] 0 (1 + r) := by rw [hw1]; exact net_new w _ (1 + r) (Nat.le_refl _)
  have HN1 := Lib.hid hnet1
  clear hw1 hnet1
  go_wp2_with fail
  refine (newref_ok (1 + r) _ (by omega) (by omega)).mono ?_
  rintro e w2 ⟨rfl, hw2⟩
  have hk2 : Kept Kno w w2 := by rw [hw2]; exact hk1.alloc _
  have hboth : Both w2 w.heap.size w.heap.size w1.heap.size (.slice none 0 0) (.slice none 0 0) [] [] 0 (1 + r) := by
    rw [hw2]
    exact ⟨HN1.out.kept0 ((Kept.refl _ _).alloc _), rnet_new w1 _ (1 + r) hk1.size, (fun k hk => by simp [Value.ownBlock] at hk), rfl, fun p hp => by cases hp⟩
  have HBo := Lib.hid hboth
  clear hw2 hboth HN1
  have hCB : w.heap.size < w1.heap.size := HBo.out.net.2.1.lt |> fun _ => Nat.lt_of_le_of_ne hk1.size (fun e => (Blk.ne_ HBo.out.net.2.1 HBo.out.ref.2.1 (by decide)) e)
  generalize w1.heap.size = C at hCB HBo
  clear hk1
  go_wp2_with fail
  go_loopg [48] n (fun g i wr => g + (intOf i).toNat = n ∧ PlayRel w C (1 + r) n i wr)
  case atStart => exact ⟨rfl, 0, 0, _, _, [], [], Nat.zero_le _, rfl, by omega, by omega, by simp; omega, hk2, HBo.out⟩
  case round =>
    clear HBo hk2
    obtain ⟨hg, k, lost, v, u, ps, qs, hkn, rfl, hl0, hl1, hpr, hkr, hboth⟩ := hrel
    have HG := Lib.hid hg
    have HBo := Lib.hid hboth
    clear hg hboth
    by_cases hkl : k < n
    · have hklt : (k : Int) < (n : Int) := by omega
      have hk0 : (0 : Int) ≤ (k : Int) := by omega
      obtain ⟨c, hc⟩ : ∃ c, cs[k]? = some c := ⟨cs[k]'(by omega), List.getElem?_eq_getElem (by omega)⟩
      obtain ⟨g, o, rfl, hcat⟩ := HC.out (by omega)
      obtain ⟨c0, c1, c2, c3, hbs, hll⟩ := (hcat k c hc).kept hkr
      have hbs0 := (hcat k c hc).2.2.2.2.1
      obtain ⟨Ab, capb, hb, hb1, hb2, hb3, hb4⟩ := hbs
      rw [hb] at c3 hbs0
      have hm60 : (if (60 : Int) < (c.l.length : Int) then (60 : Int) else (c.l.length : Int)) = ((min c.l.length 60 : Nat) : Int) := min_natw c.l.length 60
      have q1 : min c.l.length 60 ≤ c.l.length := Nat.min_le_left _ _
      have q2 : min c.l.length 60 ≤ 60 := Nat.min_le_right _ _
      generalize min c.l.length 60 = m at hm60 q1 q2
      have q3 : m ≤ capb := by omega
      have q4 : (m : Int) ≤ (capb : Int) := by omega
      have q5 : (0 : Int) ≤ (m : Int) := by omega
      have n60 : c.l.length ≤ 9223372036854775807 := by simp only [maxLen] at hll; omega
      have hcut := Bs.cut hbs0 q1
      have hlm : (c.l.take m).length = m := by rw [List.length_take]; omega
      generalize c.l.take m = lm at hcut hlm
      have HCUT := Lib.hid hcut
      have HLM := Lib.hid hlm
      clear hb hb2 hb3 hb4 hcat hc hbs0 hcut hlm
      obtain ⟨Av, capv, hv⟩ := own_form HBo.out.net.2.2.1
      subst hv
      obtain ⟨Au, capu, hu⟩ := own_form HBo.out.ref.2.2.1
      rw [HBo.out.len] at hu
      subst hu
      go_upto_block 2 with fail
      have hka := hkr.alloc (.cells #[.int .i64 c.kind, .int .i64 c.dst, .int .i64 c.idx, .slice Ab c.l.length capb] 41)
      have hba := HBo.out.kept0 ((Kept.refl Kno wr).alloc (.cells #[.int .i64 c.kind, .int .i64 c.dst, .int .i64 c.idx, .slice Ab c.l.length capb] 41))
      have hqa := Blk.new wr 41 #[.int .i64 c.kind, .int .i64 c.dst, .int .i64 c.idx, .slice Ab c.l.length capb]
      clear c0 c1 c2 c3 HBo hkr
      generalize (wr.alloc (.cells #[.int .i64 c.kind, .int .i64 c.dst, .int .i64 c.idx, .slice Ab c.l.length capb] 41)) = wa at *
      generalize wr.heap.size = q at *
      have HBA := Lib.hid hba
      have e1 : wa.cell? ⟨q, 1, none⟩ = some (.int .i64 c.dst) := hqa.cell 1
      have e2 : wa.cell? ⟨q, 2, none⟩ = some (.int .i64 c.idx) := hqa.cell 2
      have lqa : q < wa.heap.size := hqa.lt
      have lq1 : ¬ q = wa.heap.size := by omega
      have lq2 : ¬ wa.heap.size = q := by omega
      have NKN := Lib.hid (show ¬ NK w.heap.size (.slice Av ps.length capv) q from fun h => by
        rcases h with h | h
        · exact (Blk.ne_ hqa hba.net.2.1 (by decide)) h
        · exact own_blk_ne hba.net.2.2.1 hqa (by decide) h)
      have NKC := Lib.hid (show ¬ NK C (.slice Au ps.length capu) q from fun h => by
        rcases h with h | h
        · exact (Blk.ne_ hqa hba.ref.2.1 (by decide)) h
        · exact own_blk_ne hba.ref.2.2.1 hqa (by decide) h)
      have KOC := Lib.hid (show ¬ Kone C q from fun h => (Blk.ne_ hqa hba.ref.2.1 (by decide)) h)
      have KON := Lib.hid (show ¬ Kone w.heap.size q from fun h => (Blk.ne_ hqa hba.net.2.1 (by decide)) h)
      have HQA := Lib.hid hqa
      have hbase : w.heap.size ≤ wa.drew.heap.size := hka.size
      have hnl : ps.length ≤ 1000000 := by omega
      have hql : qs.length ≤ 1000000 := by rw [hba.len]; omega
      have HQL := Lib.hid hba.len
      have HND := Lib.hid (show Both wa.drew w.heap.size w.heap.size C (.slice Av ps.length capv) (.slice Au ps.length capu) ps qs lost (1 + r) from hba.kept0 (Kept.drew (Kept.refl _ _)))
      have hne2 : Both (wa.alloc (.cells #[.int .i64 0, .slice none 0 0] 44)).drew w.heap.size w.heap.size C (.slice Av ps.length capv) (.slice Au ps.length capu) ps qs lost (1 + r) := hba.kept0 (Kept.drew ((Kept.refl _ _).alloc _))
      have HNE := Lib.hid hne2
      have E2A := Lib.hid (show (wa.alloc (.cells #[.int .i64 0, .slice none 0 0] 44)).drew.cell? ⟨q, 2, none⟩ = some (.int .i64 c.idx) from ((Kept.refl Kno wa).alloc _).cell_some e2 (fun h => h))
      have HBX := Lib.hid ((Blk.new wa 44 #[.int .i64 0, .slice none 0 0]).drew)
      have NKX := Lib.hid (show ¬ NK w.heap.size (.slice Av ps.length capv) wa.heap.size from fun h => by
        rcases h with h | h
        · have := hba.net.2.1.lt; omega
        · have := (own_base hba.net.2.2.1 h).2; omega)
      have UX := Lib.hid (show (Value.slice Au ps.length capu).ownBlock ≠ some wa.heap.size from fun h => by have := (own_base hba.ref.2.2.1 h).2; omega)
      have b0 : wa.cell? ⟨w.heap.size, 0, none⟩ = some (.slice Av ps.length capv) := hba.net.2.1.cell 0
      have B0 := Lib.hid (show wa.drew.cell? ⟨w.heap.size, 0, none⟩ = some (.slice Av ps.length capv) from b0)
      have B1 := Lib.hid (show (wa.alloc (.cells #[.int .i64 0, .slice none 0 0] 44)).drew.cell? ⟨w.heap.size, 0, none⟩ = some (.slice Av ps.length capv) from hne2.net.2.1.cell 0)
      have BR0 := Lib.hid (show wa.cell? ⟨C, 1, none⟩ = some (.slice Au ps.length capu) from hba.ref.2.1.cell 1)
      clear hba hqa hne2 b0
      go_cut [] (fun wx => PlayMid w C (1 + r) k wx)
      case first =>
        by_cases hk1 : c.kind = 1
        · have t1 : (c.kind == 1) = true := by simpa using hk1
          clear hk1
          by_cases hfull : (ps.length : Int) < 1 + r
          · skip
            as_aux_lemma =>
              go_wp2_with fail
              go_region_held3 (fun w' => w'.cell? ⟨q, 1, none⟩ = some (.int .i64 c.dst)) (first | go_keep | exact z1 | exact z2)
                (first
                 | (go_at_call 13; refine (send_yes w.heap.size w.heap.size _ _ ps lost (1 + r) c.dst lm _ HND.out.net (Rd.kept0 HCUT.out hka.drew) ?_ hbase hnl hfull).mono ?_; (rw [HLM.out]; omega); rintro e wb ⟨rfl, v2, p2, hp1, hp2, hn2, hk2, hm2, hq2⟩
                    have z1 := hk2.cell_some e1 NKN.out
                    have hkb : Kept Kno w wb := kept_net hka.drew HND.out.net (Nat.le_refl _) hk2
                    have HRb := Lib.hid (rnet_after HND.out.ref HND.out.net HND.out.apart hk2)
                    have HApb := Lib.hid (apart_left HND.out.apart hm2.w (fun x hx => (own_base HND.out.ref.2.2.1 hx).2))
                    have HNb := Lib.hid hn2
                    clear hn2 hk2 hm2 hq2)
                 | (go_at_call 17; refine (rsend_yes w.heap.size C _ _ qs lost (1 + r) c.dst lm _ HRb.out (Rd.kept0 HCUT.out hkb) ?_ hkb.size hql ?_).mono ?_; (rw [HLM.out]; omega); (rw [HQL.out]; exact hfull); rintro e wc ⟨rfl, u2, p3, hp3, hp4, hn3, hk3, hm3⟩
                    have z2 := hk3.cell_some z1 NKC.out))
              go_wp2_with fail
              go_meet
              have hab := HND.out.abs
              have hsh := HND.out.short
              exact ⟨lost, v2, u2, ps ++ [p2], qs ++ [p3], by omega, by omega, by simp; omega, kept_rnet hkb HRb.out (Nat.le_refl _) hk3,
                ⟨net_after HNb.out HRb.out HApb.out hk3, hn3, apart_right HApb.out hm3.w (fun x hx => (own_base HNb.out.2.2.1 hx).2), by rw [List.map_append, List.map_append, hab]; simp [Pk.abs, hp1, hp2, hp3, hp4],
                 fun p hp => by
                   rcases List.mem_append.1 hp with hp | hp
                   · exact hsh p hp
                   · rw [List.mem_singleton.1 hp, hp4, HLM.out]; omega⟩⟩
          · have hfull' : 1 + r ≤ (ps.length : Int) := by omega
            clear hfull
            as_aux_lemma =>
              go_wp2_with fail
              go_region_held3 (fun w' => w'.cell? ⟨q, 1, none⟩ = some (.int .i64 c.dst)) (first | go_keep | exact z1 | exact z2)
                (first
                 | (go_at_call 13; refine (send_no w.heap.size w.heap.size _ _ ps lost (1 + r) c.dst _ HND.out.net hl0 ?_ hfull').mono ?_; omega; rintro e wb ⟨rfl, hn2, hk2⟩
                    have z1 := hk2.cell_some e1 KON.out
                    have hkb : Kept Kno w wb := kept_one hka.drew (Nat.le_refl _) hk2
                    have HRb := Lib.hid (rnet_after HND.out.ref HND.out.net HND.out.apart (kone_nk _ hk2))
                    have HNb := Lib.hid hn2
                    clear hn2 hk2)
                 | (go_at_call 17; refine (rsend_no w.heap.size C _ _ qs lost (1 + r) c.dst _ HRb.out hl0 ?_ ?_).mono ?_; omega; (rw [HQL.out]; exact hfull'); rintro e wc ⟨rfl, hn3, hk3⟩
                    have z2 := hk3.cell_some z1 KOC.out))
              go_wp2_with fail
              go_meet
              exact ⟨lost + 1, _, _, ps, qs, by omega, by omega, hpr, kept_rnet hkb HRb.out (Nat.le_refl _) (kone_nk _ hk3),
                ⟨net_after HNb.out HRb.out HND.out.apart (kone_nk _ hk3), hn3, HND.out.apart, HND.out.abs, HND.out.short⟩⟩
        · have t1 : (c.kind == 1) = false := by simpa using hk1
          clear hk1
          by_cases hk2 : c.kind = 2
          · have t2 : (c.kind == 2) = true := by simpa using hk2
            clear hk2
            by_cases hidx : 0 ≤ c.idx ∧ c.idx < ps.length
            · obtain ⟨hi0, hi1⟩ := hidx
              obtain ⟨i, hi⟩ := Int.eq_ofNat_of_zero_le hi0
              have hip : i < ps.length := by omega
              obtain ⟨p, hp⟩ : ∃ p, ps[i]? = some p := ⟨ps[i], List.getElem?_eq_getElem hip⟩
              obtain ⟨Aq, capq, hqi, hsl⟩ := HND.out.at_ hp
              have HP := Lib.hid hp
              have HQI := Lib.hid hqi
              have E2B := Lib.hid (hi ▸ E2A.out)
              rw [hi] at e2
              clear hi hi0 hi1 E2A hp hqi
              go_upto_region 14 with fail
              go_cut [12, 13] (fun s t wx => GotMid w q C (1 + r) i (.slice Au ps.length capu) (ps.eraseIdx i) qs lost p.dst p.l true s t wx)
              case first =>
                as_aux_lemma =>
                  go_region_held3 (fun w' => w'.cell? ⟨q, 2, none⟩ = some (.int .i64 i)) (first | go_keep | exact z2)
                    (first
                     | (go_at_call 14; refine (take_yes w.heap.size w.heap.size i _ ps p lost (1 + r) _ HND.out.net HP.out hnl).mono ?_; rintro e wb ⟨A2, cap2, v2, rfl, ho2, hn2, hk2, hm2⟩; have z2 := hk2.cell_some e2 NKN.out)
                     | (go_at_call 14; refine (take_yes w.heap.size w.heap.size i _ ps p lost (1 + r) _ HNE.out.net HP.out hnl).mono ?_; rintro e wb ⟨A2, cap2, v2, rfl, ho2, hn2, hk2, hm2⟩; have z2 := hk2.cell_some E2B.out NKN.out
                        have hbq := HBX.out.kept hk2 NKX.out
                        have z4 : wb.cell? ⟨wa.heap.size, 0, none⟩ = some (.int .i64 0) := hbq.cell 0
                        have z5 : wb.cell? ⟨wa.heap.size, 1, none⟩ = some (.slice none 0 0) := hbq.cell 1
                        have z6 := hbq.frozen 0
                        have z7 := hbq.frozen 1
                        have HBQ2 := Lib.hid hbq
                        clear hbq))
                  · go_wp2_with fail
                    go_meet
                    exact got_call (wa := wa) (kept_net hka.drew HND.out.net (Nat.le_refl _) hk2) hn2 (rnet_after HND.out.ref HND.out.net HND.out.apart hk2) (apart_eq HND.out.apart hm2) (ownB_zero ho2) z2
                  · go_wp2_with fail
                    go_meet
                    exact got_alloc (kept_net (hka.alloc _).drew HNE.out.net (Nat.le_refl _) hk2) hn2 (rnet_after HNE.out.ref HNE.out.net HNE.out.apart hk2) (apart_eq HNE.out.apart hm2) (ownB_zero ho2) z2 HBQ2.out hbase lq1 UX.out (by rw [hm2]; exact fun e => NKX.out (.inr e))
              case rest =>
                as_aux_lemma =>
                  obtain ⟨x, A2, cap2, v2, rfl, rfl, hkx, hnx, hrx, hax, hbx, hox, hcx, hux⟩ := hcut
                  have HNX := Lib.hid hnx
                  have HRX := Lib.hid hrx
                  have HBX2 := Lib.hid hbx
                  have HOX := Lib.hid hox
                  have HAX := Lib.hid hax
                  have xlt : x < wc.heap.size := hbx.lt
                  clear hnx hrx hbx hox hax e1 e2
                  go_wp2_with fail
                  refine (rtake_yes w.heap.size C i _ qs p.dst Aq capq p.l lost (1 + r) _ HRX.out HQI.out hkx.size hql).mono ?_
                  rintro e w5 ⟨u2, rfl, ho5, hr5, hk5, hm5⟩
                  have nkx : ¬ NK C (.slice Au ps.length capu) x := fun h => by
                    rcases h with h | h
                    · exact (Blk.ne_ HBX2.out HRX.out.2.1 (by decide)) h
                    · exact hux h
                  have hbx5 := HBX2.out.kept hk5 nkx
                  have y0 : w5.cell? ⟨x, 0, none⟩ = some (.int .i64 p.dst) := hbx5.cell 0
                  have y1 : w5.cell? ⟨x, 1, none⟩ = some (.slice A2 p.l.length cap2) := hbx5.cell 1
                  have xlt5 : x < w5.heap.size := hbx5.lt
                  have hox5 : OwnB w5 0 5 (.slice A2 p.l.length cap2) p.l := own_kept HOX.out hk5 (fun y hy h => by
                    rcases h with h | h
                    · subst h; exact own_blk_ne HOX.out HRX.out.2.1 (by decide) hy
                    · rcases HRX.out.2.2.1.2 with ⟨e, _⟩ | ⟨gg, ccap, ccur, e, _, hh, _⟩
                      · rw [e] at h; simp [Value.ownBlock] at h
                      · rw [e] at h
                        have : gg = y := by simpa [Value.ownBlock] using h
                        subst this
                        exact own_blk_ne HOX.out (g := gg) (t := 44) (cs := ccur) hh (by decide) hy)
                  have HOX5 := Lib.hid hox5
                  have HO5 := Lib.hid ho5
                  have HR5 := Lib.hid hr5
                  clear hbx5 hox5 ho5 hr5
                  go_wp2_with fail
                  refine (same_yes p.dst _ _ p.l _ (Rd.alloc HOX5.out.bs _) (Rd.alloc HO5.out.bs _)).mono ?_
                  rintro e w6 ⟨rfl, hk6⟩
                  go_wp2_with fail
                  go_meet
                  have hk56 : Kept Kno w5 w6 := ((Kept.refl _ _).alloc _).then0 hk6
                  exact ⟨lost, v2, u2, ps.eraseIdx i, qs.eraseIdx i, by omega, by omega, by rw [List.length_eraseIdx, if_pos hip]; omega, (kept_rnet hkx HRX.out (Nat.le_refl _) hk5).then0 hk56,
                    ⟨(net_after HNX.out HRX.out HAX.out hk5).kept0 hk56, HR5.out.kept0 hk56, apart_right HAX.out hm5 (fun y hy => (own_base HNX.out.2.2.1 hy).2), erase_abs HND.out.abs i, fun p hp => HND.out.short p (List.mem_of_mem_eraseIdx hp)⟩⟩
            · have hidx' : c.idx < 0 ∨ (ps.length : Int) ≤ c.idx := by omega
              go_upto_region 14 with fail
              go_cut [12, 13] (fun s t wx => GotMid w q C (1 + r) c.idx (.slice Au ps.length capu) ps qs lost 0 [] false s t wx)
              case first =>
                as_aux_lemma =>
                  go_region_held3 (fun w' => w'.cell? ⟨q, 2, none⟩ = some (.int .i64 c.idx)) (first | go_keep | exact z2)
                    (first
                     | (go_at_call 14; refine (take_no w.heap.size ps.length capv Av c.idx _ B0.out hidx').mono ?_; rintro e wb ⟨rfl, hk2⟩; have z2 := hk2.cell_some e2 (fun h => h))
                     | (go_at_call 14; refine (take_no w.heap.size ps.length capv Av c.idx _ B1.out hidx').mono ?_; rintro e wb ⟨rfl, hk2⟩; have z2 := hk2.cell_some E2A.out (fun h => h)
                        have hbq := HBX.out.kept hk2 (fun h => h)
                        have z4 : wb.cell? ⟨wa.heap.size, 0, none⟩ = some (.int .i64 0) := hbq.cell 0
                        have z5 : wb.cell? ⟨wa.heap.size, 1, none⟩ = some (.slice none 0 0) := hbq.cell 1
                        have z6 := hbq.frozen 0
                        have z7 := hbq.frozen 1
                        have HBQ2 := Lib.hid hbq
                        clear hbq))
                  · go_wp2_with fail
                    go_meet
                    exact got_call (wa := wa) (l := []) (A := none) (cap := 0) (hka.drew.then0 hk2) (HND.out.net.kept0 hk2) (HND.out.ref.kept0 hk2) HND.out.apart (ownB_nil _ _ _) z2
                  · go_wp2_with fail
                    go_meet
                    exact got_alloc (l := []) (A := none) (cap := 0) ((hka.alloc _).drew.then0 hk2) (HNE.out.net.kept0 hk2) (HNE.out.ref.kept0 hk2) HNE.out.apart (ownB_nil _ _ _) z2 HBQ2.out hbase lq1 UX.out (fun e => NKX.out (.inr e))
              case rest =>
                as_aux_lemma =>
                  obtain ⟨x, A2, cap2, v2, rfl, rfl, hkx, hnx, hrx, hax, hbx, hox, hcx, hux⟩ := hcut
                  have d1 : wc.cell? ⟨C, 1, none⟩ = some (.slice Au ps.length capu) := hrx.2.1.cell 1
                  have HNX := Lib.hid hnx
                  have HRX := Lib.hid hrx
                  have HBX2 := Lib.hid hbx
                  have HOX := Lib.hid hox
                  clear hnx hrx hbx hox e1 e2
                  go_wp2_with fail
                  refine (rtake_no C ps.length capu Au c.idx _ d1 hidx').mono ?_
                  rintro e w5 ⟨rfl, hk5⟩
                  have hbx5 := HBX2.out.kept hk5 (fun h => h)
                  have y0 : w5.cell? ⟨x, 0, none⟩ = some (.int .i64 0) := hbx5.cell 0
                  have y1 : w5.cell? ⟨x, 1, none⟩ = some (.slice A2 0 cap2) := hbx5.cell 1
                  have xlt5 : x < w5.heap.size := hbx5.lt
                  have HOX5 := Lib.hid (own_kept (S := Kno) HOX.out hk5 (fun _ _ h => h))
                  clear hbx5
                  go_wp2_with fail
                  refine (same_yes 0 _ _ [] _ (Rd.alloc (OwnB.bs HOX5.out) _) (OwnB.bs (ownB_nil _ 0 5))).mono ?_
                  rintro e w6 ⟨rfl, hk6⟩
                  go_wp2_with fail
                  go_meet
                  have hk56 : Kept Kno wc w6 := (hk5.alloc _).then0 hk6
                  exact ⟨lost, v2, _, ps, qs, by omega, by omega, hpr, hkx.then0 hk56, ⟨HNX.out.kept0 hk56, HRX.out.kept0 hk56, hax, HND.out.abs, HND.out.short⟩⟩
          · have t2 : (c.kind == 2) = false := by simpa using hk2
            clear hk2
            by_cases hk3 : c.kind = 3
            · have t3 : (c.kind == 3) = true := by simpa using hk3
              clear hk3
              by_cases hidx : 0 ≤ c.idx ∧ c.idx < ps.length
              · obtain ⟨hi0, hi1⟩ := hidx
                obtain ⟨i, hi⟩ := Int.eq_ofNat_of_zero_le hi0
                have hip : i < ps.length := by omega
                obtain ⟨p, hp⟩ : ∃ p, ps[i]? = some p := ⟨ps[i], List.getElem?_eq_getElem hip⟩
                obtain ⟨Aq, capq, hqi, hsl⟩ := HND.out.at_ hp
                have HQI := Lib.hid hqi
                rw [hi] at e2
                clear hi hi0 hi1 E2A hp hqi
                as_aux_lemma =>
                  go_wp2_with fail
                  refine (rtake_yes w.heap.size C i _ qs p.dst Aq capq p.l lost (1 + r) _ HBA.out.ref HQI.out hbase hql).mono ?_
                  rintro e w5 ⟨u2, rfl, ho5, hr5, hk5, hm5⟩
                  have z2 := hk5.cell_some e2 NKC.out
                  have hk5' : Kept Kno w w5 := kept_rnet hka HBA.out.ref (Nat.le_refl _) hk5
                  have hn5 := net_after HBA.out.net HBA.out.ref HBA.out.apart hk5
                  have hap5 := apart_right HBA.out.apart hm5 (fun y hy => (own_base HBA.out.net.2.2.1 hy).2)
                  have l5 : q < w5.heap.size := World.block_lt_of_cell? w5 _ z2
                  have HN5 := Lib.hid (hn5.kept0 (((Kept.refl _ _).alloc (.cells #[.int .i64 p.dst, .slice Aq p.l.length capq] 44)).drew))
                  have HR5 := Lib.hid (hr5.kept0 (((Kept.refl _ _).alloc (.cells #[.int .i64 p.dst, .slice Aq p.l.length capq] 44)).drew))
                  have HA5 := Lib.hid hap5
                  clear hn5 hr5 ho5 hap5 e2
                  go_wp2_with fail
                  go_region_held3 (fun w' => w'.cell? ⟨q, 2, none⟩ = some (.int .i64 i)) (first | go_keep | exact z3)
                    (first
                     | (go_at_call 15; refine (drop_yes w.heap.size w.heap.size i _ ps lost (1 + r) _ HN5.out hip hnl).mono ?_; rintro e w6 ⟨rfl, v2, hn6, hk6, hm6⟩; have z3 := hk6.cell_some (((Kept.refl Kno w5).alloc _).cell_some z2 (fun h => h)) NKN.out))
                  go_wp2_with fail
                  go_meet
                  exact ⟨lost, v2, u2, ps.eraseIdx i, qs.eraseIdx i, by omega, by omega, by rw [List.length_eraseIdx, if_pos hip]; omega, kept_net ((hk5'.alloc _).drew) HN5.out (Nat.le_refl _) hk6,
                    ⟨hn6, rnet_after HR5.out HN5.out HA5.out hk6, apart_eq HA5.out hm6, erase_abs HND.out.abs i, fun p hp => HND.out.short p (List.mem_of_mem_eraseIdx hp)⟩⟩
              · have hidx' : c.idx < 0 ∨ (ps.length : Int) ≤ c.idx := by omega
                go_wp2_with fail
                refine (rtake_no C ps.length capu Au c.idx _ BR0.out hidx').mono ?_
                rintro e w5 ⟨rfl, hk5⟩
                have z2 := hk5.cell_some e2 (fun h => h)
                have l5 : q < w5.heap.size := World.block_lt_of_cell? w5 _ z2
                have D0 := Lib.hid (show ((w5.alloc (.cells #[.int .i64 0, .slice none 0 0] 44)).drew).cell? ⟨w.heap.size, 0, none⟩ = some (.slice Av ps.length capv) from ((hk5.alloc _).drew).cell_some (HBA.out.net.2.1.cell 0) (fun h => h))
                clear e2
                go_wp2_with fail
                go_region_held3 (fun w' => w'.cell? ⟨q, 2, none⟩ = some (.int .i64 c.idx)) (first | go_keep | exact z3)
                  (first
                   | (go_at_call 15; refine (drop_no w.heap.size ps.length capv Av c.idx _ D0.out hidx').mono ?_; rintro e w6 ⟨rfl, rfl⟩; have z3 := (((Kept.refl Kno w5).alloc (.cells #[.int .i64 0, .slice none 0 0] 44)).drew).cell_some z2 (fun h => h)))
                go_wp2_with fail
                go_meet
                have hk56 := (hk5.alloc (.cells #[.int .i64 0, .slice none 0 0] 44)).drew
                exact ⟨lost, _, _, ps, qs, by omega, by omega, hpr, hka.then0 hk56, HBA.out.kept0 hk56⟩
            · have t3 : (c.kind == 3) = false := by simpa using hk3
              clear hk3
              by_cases hk4 : c.kind = 4
              · have t4 : (c.kind == 4) = true := by simpa using hk4
                clear hk4
                by_cases hidx : 0 ≤ c.idx ∧ c.idx < ps.length
                · obtain ⟨hi0, hi1⟩ := hidx
                  obtain ⟨i, hi⟩ := Int.eq_ofNat_of_zero_le hi0
                  have hip : i < ps.length := by omega
                  obtain ⟨p, hp⟩ : ∃ p, ps[i]? = some p := ⟨ps[i], List.getElem?_eq_getElem hip⟩
                  obtain ⟨Aq, capq, hqi, hsl⟩ := HND.out.at_ hp
                  have HP := Lib.hid hp
                  have HQI := Lib.hid hqi
                  rw [hi] at e2
                  clear hi hi0 hi1 E2A hp hqi
                  by_cases hfull : (ps.length : Int) < 1 + r
                  · skip
                    as_aux_lemma =>
                      go_wp2_with fail
                      go_region_held3 (fun w' => w'.cell? ⟨q, 2, none⟩ = some (.int .i64 i)) (first | go_keep | exact z1 | exact z2)
                        (first
                         | (go_at_call 16; refine (double_yes w.heap.size w.heap.size i _ ps p lost (1 + r) _ HND.out.net HP.out hbase hnl hfull).mono ?_; rintro e wb ⟨rfl, v2, p2, hp1, hp2, hn2, hk2, hm2, hq2⟩
                            have z1 := hk2.cell_some e2 NKN.out
                            have hkb : Kept Kno w wb := kept_net hka.drew HND.out.net (Nat.le_refl _) hk2
                            have HRb := Lib.hid (rnet_after HND.out.ref HND.out.net HND.out.apart hk2)
                            have HApb := Lib.hid (apart_left HND.out.apart hm2.w (fun x hx => (own_base HND.out.ref.2.2.1 hx).2))
                            have HNb := Lib.hid hn2
                            clear hn2 hk2 hm2 hq2)
                         | (go_at_call 20; refine (rdouble_yes w.heap.size C i _ qs p.dst Aq capq p.l lost (1 + r) _ HRb.out HQI.out hkb.size hql ?_ ?_).mono ?_; omega; (rw [HQL.out]; exact hfull); rintro e wc ⟨rfl, u2, p3, hp3, hp4, hn3, hk3, hm3⟩
                            have z2 := hk3.cell_some z1 NKC.out))
                      go_wp2_with fail
                      go_meet
                      have hab := HND.out.abs
                      have hsh := HND.out.short
                      exact ⟨lost, v2, u2, ps ++ [p2], qs ++ [p3], by omega, by omega, by simp; omega, kept_rnet hkb HRb.out (Nat.le_refl _) hk3,
                        ⟨net_after HNb.out HRb.out HApb.out hk3, hn3, apart_right HApb.out hm3 (fun x hx => (own_base HNb.out.2.2.1 hx).2), by rw [List.map_append, List.map_append, hab]; simp [Pk.abs, hp1, hp2, hp3, hp4],
                         fun p' hp => by
                           rcases List.mem_append.1 hp with hp | hp
                           · exact hsh p' hp
                           · rw [List.mem_singleton.1 hp, hp4]; omega⟩⟩
                  · have hfull' : 1 + r ≤ (ps.length : Int) := by omega
                    clear hfull
                    as_aux_lemma =>
                      go_wp2_with fail
                      go_region_held3 (fun w' => w'.cell? ⟨q, 2, none⟩ = some (.int .i64 i)) (first | go_keep | exact z1 | exact z2)
                        (first
                         | (go_at_call 16; refine (double_full w.heap.size w.heap.size i _ ps p lost (1 + r) _ HND.out.net HP.out hnl hfull').mono ?_; rintro e wb ⟨rfl, hk2⟩
                            have z1 := hk2.cell_some e2 (fun h => h)
                            have HBb := Lib.hid (HND.out.kept0 hk2))
                         | (go_at_call 20; refine (rdouble_full w.heap.size C i _ qs p.dst Aq capq p.l lost (1 + r) _ HBb.out.ref HQI.out hql ?_).mono ?_; (rw [HQL.out]; exact hfull'); rintro e wc ⟨rfl, hk3⟩
                            have z2 := hk3.cell_some z1 (fun h => h)))
                      go_wp2_with fail
                      go_meet
                      exact ⟨lost, _, _, ps, qs, by omega, by omega, hpr, (hka.drew.then0 hk2).then0 hk3, HBb.out.kept0 hk3⟩
                · have hidx' : c.idx < 0 ∨ (ps.length : Int) ≤ c.idx := by omega
                  go_wp2_with fail
                  go_region_held3 (fun w' => w'.cell? ⟨q, 2, none⟩ = some (.int .i64 c.idx)) (first | go_keep | exact z1 | exact z2)
                    (first
                     | (go_at_call 16; refine (double_out w.heap.size w.heap.size _ ps lost (1 + r) c.idx _ HND.out.net hidx').mono ?_; rintro e wb ⟨rfl, hk2⟩
                        have z1 := hk2.cell_some e2 (fun h => h)
                        have HBb := Lib.hid (HND.out.kept0 hk2)
                        have D1 := Lib.hid (show wb.cell? ⟨C, 1, none⟩ = some (.slice Au ps.length capu) from hk2.cell_some (HND.out.ref.2.1.cell 1) (fun h => h)))
                     | (go_at_call 20; refine (rdouble_out C ps.length capu Au c.idx _ D1.out hidx').mono ?_; rintro e wc ⟨rfl, hk3⟩
                        have z2 := hk3.cell_some z1 (fun h => h)))
                  go_wp2_with fail
                  go_meet
                  exact ⟨lost, _, _, ps, qs, by omega, by omega, hpr, (hka.drew.then0 hk2).then0 hk3, HBb.out.kept0 hk3⟩
              · have t4 : (c.kind == 4) = false := by simpa using hk4
                clear hk4
                by_cases hk5 : c.kind = 5
                · have t5 : (c.kind == 5) = true := by simpa using hk5
                  clear hk5
                  by_cases hidx : 0 ≤ c.idx ∧ c.idx < ps.length
                  · obtain ⟨hi0, hi1⟩ := hidx
                    obtain ⟨i, hi⟩ := Int.eq_ofNat_of_zero_le hi0
                    have hip : i < ps.length := by omega
                    obtain ⟨p, hp⟩ : ∃ p, ps[i]? = some p := ⟨ps[i], List.getElem?_eq_getElem hip⟩
                    obtain ⟨Aq, capq, hqi, hsl⟩ := HND.out.at_ hp
                    have HP := Lib.hid hp
                    have HQI := Lib.hid hqi
                    have E2B := Lib.hid (hi ▸ E2A.out)
                    rw [hi] at e2
                    clear hi hi0 hi1 E2A hp hqi
                    go_upto_region 26 with fail
                    go_cut [18, 19] (fun s t wx => GotMid w q C (1 + r) i (.slice Au ps.length capu) ps qs lost p.dst p.l true s t wx)
                    case first =>
                      as_aux_lemma =>
                        go_region_held3 (fun w' => w'.cell? ⟨q, 2, none⟩ = some (.int .i64 i)) (first | go_keep | exact z2)
                          (first
                           | (go_at_call 21; refine (look_yes w.heap.size w.heap.size i _ ps p _ B0.out HND.out.net.2.2 HP.out hnl).mono ?_; rintro e wb ⟨A2, cap2, rfl, ho2, hk2⟩; have z2 := hk2.cell_some e2 (fun h => h))
                           | (go_at_call 21; refine (look_yes w.heap.size w.heap.size i _ ps p _ B1.out HNE.out.net.2.2 HP.out hnl).mono ?_; rintro e wb ⟨A2, cap2, rfl, ho2, hk2⟩; have z2 := hk2.cell_some E2B.out (fun h => h)
                              have hbq := HBX.out.kept hk2 (fun h => h)
                              have z4 : wb.cell? ⟨wa.heap.size, 0, none⟩ = some (.int .i64 0) := hbq.cell 0
                              have z5 : wb.cell? ⟨wa.heap.size, 1, none⟩ = some (.slice none 0 0) := hbq.cell 1
                              have z6 := hbq.frozen 0
                              have z7 := hbq.frozen 1
                              have HBQ2 := Lib.hid hbq
                              clear hbq))
                        · go_wp2_with fail
                          go_meet
                          exact got_call (wa := wa) (hka.drew.then0 hk2) (HND.out.net.kept0 hk2) (HND.out.ref.kept0 hk2) HND.out.apart (ownB_zero ho2) z2
                        · go_wp2_with fail
                          go_meet
                          exact got_alloc ((hka.alloc _).drew.then0 hk2) (HNE.out.net.kept0 hk2) (HNE.out.ref.kept0 hk2) HNE.out.apart (ownB_zero ho2) z2 HBQ2.out hbase lq1 UX.out (fun e => NKX.out (.inr e))
                    case rest =>
                      as_aux_lemma =>
                        obtain ⟨x, A2, cap2, v2, rfl, rfl, hkx, hnx, hrx, hax, hbx, hox, hcx, hux⟩ := hcut
                        have d1 : wc.cell? ⟨C, 1, none⟩ = some (.slice Au ps.length capu) := hrx.2.1.cell 1
                        have HNX := Lib.hid hnx
                        have HRX := Lib.hid hrx
                        have HBX2 := Lib.hid hbx
                        have HOX := Lib.hid hox
                        have HQB := Lib.hid (hrx.2.2.2 _ (List.mem_of_getElem? HQI.out)).1
                        clear hnx hrx hbx hox e1 e2
                        go_wp2_with fail
                        refine (rlook_yes w.heap.size C i _ qs p.dst Aq capq p.l _ d1 HRX.out.2.2 HQI.out hql).mono ?_
                        rintro e w5 ⟨rfl, hk5⟩
                        have hbx5 := HBX2.out.kept hk5 (fun h => h)
                        have y0 : w5.cell? ⟨x, 0, none⟩ = some (.int .i64 p.dst) := hbx5.cell 0
                        have y1 : w5.cell? ⟨x, 1, none⟩ = some (.slice A2 p.l.length cap2) := hbx5.cell 1
                        have xlt5 : x < w5.heap.size := hbx5.lt
                        have HOX5 := Lib.hid (own_kept (S := Kno) HOX.out hk5 (fun _ _ h => h))
                        have HQB5 := Lib.hid (own_kept (S := Kno) HQB.out hk5 (fun _ _ h => h))
                        clear hbx5
                        go_wp2_with fail
                        refine (same_yes p.dst _ _ p.l _ (Rd.alloc (OwnB.bs HOX5.out) _) (Rd.alloc (OwnB.bs HQB5.out) _)).mono ?_
                        rintro e w6 ⟨rfl, hk6⟩
                        go_wp2_with fail
                        go_meet
                        have hk56 : Kept Kno wc w6 := (hk5.alloc _).then0 hk6
                        exact ⟨lost, v2, _, ps, qs, by omega, by omega, hpr, hkx.then0 hk56, ⟨HNX.out.kept0 hk56, HRX.out.kept0 hk56, hax, HND.out.abs, HND.out.short⟩⟩
                  · have hidx' : c.idx < 0 ∨ (ps.length : Int) ≤ c.idx := by omega
                    go_upto_region 26 with fail
                    go_cut [18, 19] (fun s t wx => GotMid w q C (1 + r) c.idx (.slice Au ps.length capu) ps qs lost 0 [] false s t wx)
                    case first =>
                      as_aux_lemma =>
                        go_region_held3 (fun w' => w'.cell? ⟨q, 2, none⟩ = some (.int .i64 c.idx)) (first | go_keep | exact z2)
                          (first
                           | (go_at_call 21; refine (look_no w.heap.size ps.length capv Av c.idx _ B0.out hidx').mono ?_; rintro e wb ⟨rfl, hk2⟩; have z2 := hk2.cell_some e2 (fun h => h))
                           | (go_at_call 21; refine (look_no w.heap.size ps.length capv Av c.idx _ B1.out hidx').mono ?_; rintro e wb ⟨rfl, hk2⟩; have z2 := hk2.cell_some E2A.out (fun h => h)
                              have hbq := HBX.out.kept hk2 (fun h => h)
                              have z4 : wb.cell? ⟨wa.heap.size, 0, none⟩ = some (.int .i64 0) := hbq.cell 0
                              have z5 : wb.cell? ⟨wa.heap.size, 1, none⟩ = some (.slice none 0 0) := hbq.cell 1
                              have z6 := hbq.frozen 0
                              have z7 := hbq.frozen 1
                              have HBQ2 := Lib.hid hbq
                              clear hbq))
                        · go_wp2_with fail
                          go_meet
                          exact got_call (wa := wa) (l := []) (A := none) (cap := 0) (hka.drew.then0 hk2) (HND.out.net.kept0 hk2) (HND.out.ref.kept0 hk2) HND.out.apart (ownB_nil _ _ _) z2
                        · go_wp2_with fail
                          go_meet
                          exact got_alloc (l := []) (A := none) (cap := 0) ((hka.alloc _).drew.then0 hk2) (HNE.out.net.kept0 hk2) (HNE.out.ref.kept0 hk2) HNE.out.apart (ownB_nil _ _ _) z2 HBQ2.out hbase lq1 UX.out (fun e => NKX.out (.inr e))
                    case rest =>
                      as_aux_lemma =>
                        obtain ⟨x, A2, cap2, v2, rfl, rfl, hkx, hnx, hrx, hax, hbx, hox, hcx, hux⟩ := hcut
                        have d1 : wc.cell? ⟨C, 1, none⟩ = some (.slice Au ps.length capu) := hrx.2.1.cell 1
                        have HNX := Lib.hid hnx
                        have HRX := Lib.hid hrx
                        have HBX2 := Lib.hid hbx
                        have HOX := Lib.hid hox
                        clear hnx hrx hbx hox e1 e2
                        go_wp2_with fail
                        refine (rlook_no C ps.length capu Au c.idx _ d1 hidx').mono ?_
                        rintro e w5 ⟨rfl, hk5⟩
                        have hbx5 := HBX2.out.kept hk5 (fun h => h)
                        have y0 : w5.cell? ⟨x, 0, none⟩ = some (.int .i64 0) := hbx5.cell 0
                        have y1 : w5.cell? ⟨x, 1, none⟩ = some (.slice A2 0 cap2) := hbx5.cell 1
                        have xlt5 : x < w5.heap.size := hbx5.lt
                        have HOX5 := Lib.hid (own_kept (S := Kno) HOX.out hk5 (fun _ _ h => h))
                        clear hbx5
                        go_wp2_with fail
                        refine (same_yes 0 _ _ [] _ (Rd.alloc (OwnB.bs HOX5.out) _) (OwnB.bs (ownB_nil _ 0 5))).mono ?_
                        rintro e w6 ⟨rfl, hk6⟩
                        go_wp2_with fail
                        go_meet
                        have hk56 : Kept Kno wc w6 := (hk5.alloc _).then0 hk6
                        exact ⟨lost, v2, _, ps, qs, by omega, by omega, hpr, hkx.then0 hk56, ⟨HNX.out.kept0 hk56, HRX.out.kept0 hk56, hax, HND.out.abs, HND.out.short⟩⟩
                · have t5 : (c.kind == 5) = false := by simpa using hk5
                  clear hk5
                  as_aux_lemma =>
                    go_wp2_with fail
                    go_meet
                    exact ⟨lost, _, _, ps, qs, by omega, by omega, hpr, hka, HBA.out⟩
      case rest =>
        as_aux_lemma =>
          clear HBA HND HNE NKN NKC KOC KON HQA E2A HBX NKX UX B0 B1 BR0 HQL e1 e2 hka hbase lqa lq1 lq2 hnl hql hpr hl0 hl1
          obtain ⟨lost', v', u', ps', qs', gl0, gl1, gpr, gk', gb⟩ := hcut
          obtain ⟨Av', capv', hv'⟩ := own_form gb.net.2.2.1
          subst hv'
          obtain ⟨Au', capu', hu'⟩ := own_form gb.ref.2.2.1
          rw [gb.len] at hu'
          subst hu'
          have N0 := Lib.hid (show wc.drew.cell? ⟨w.heap.size, 0, none⟩ = some (.slice Av' ps'.length capv') from gb.net.2.1.cell 0)
          have N1 := Lib.hid (show wc.drew.cell? ⟨w.heap.size, 1, none⟩ = some (.int .i64 lost') from gb.net.2.1.cell 1)
          have r1 : wc.cell? ⟨C, 1, none⟩ = some (.slice Au' ps'.length capu') := gb.ref.2.1.cell 1
          have r2 : wc.cell? ⟨C, 2, none⟩ = some (.int .i64 lost') := gb.ref.2.1.cell 2
          have GB := Lib.hid gb
          have HRow := Lib.hid (show Row wc.drew w.heap.size (.slice Av' ps'.length capv') ps' from gb.net.2.2)
          have hnl : ps'.length ≤ 1000000 := by omega
          clear gb
          go_wp2_with fail
          go_region_held3 (fun w' => w'.cell? ⟨C, 1, none⟩ = some (.slice Au' ps'.length capu') ∧ w'.cell? ⟨C, 2, none⟩ = some (.int .i64 lost')) (first | go_keep | exact ⟨z1, z2⟩ | exact ⟨y1, y2⟩)
            (first
             | (go_at_call 10; refine (len_any _ _ ps'.length capv' Av' _ N0.out).mono ?_; rintro e w' ⟨rfl, rfl⟩)
             | (go_at_call 11; refine (lost_any _ lost' _ N1.out).mono ?_; rintro e w' ⟨rfl, rfl⟩)
             | (go_at_call 24; refine (all_any w.heap.size w.heap.size _ ps' _ N0.out HRow.out hnl).mono ?_; rintro e w3 ⟨A3, cap3, rs, rfl, hrow3, habs3, hk3⟩
                have z1 := hk3.cell_some (show wc.drew.cell? ⟨C, 1, none⟩ = _ from r1) (fun h => h)
                have z2 := hk3.cell_some (show wc.drew.cell? ⟨C, 2, none⟩ = _ from r2) (fun h => h)
                have HR3 := Lib.hid hrow3
                have HA3 := Lib.hid habs3
                clear hrow3 habs3)
             | (go_at_call 23; refine (samePackets_yes _ _ _ _ rs qs' _ HR3.out (Row.kept (S := Kno) GB.out.ref.2.2 ((Kept.refl Kno wc).drew.then0 hk3) (fun _ _ h => h) (fun _ _ _ _ h => h)) (HA3.out.trans GB.out.abs) ?_).mono ?_; (have := congrArg List.length HA3.out; simp at this; omega); rintro e w4 ⟨rfl, hk4⟩
                have y1 := hk4.cell_some z1 (fun h => h)
                have y2 := hk4.cell_some z2 (fun h => h)))
          go_wp2_with fail
          have hg := HG.out
          simp [intOf] at hg
          have hk34 : Kept Kno wc w4 := ((Kept.refl Kno wc).drew.then0 hk3).then0 hk4
          go_roundg (gk - 1)
          case measure => omega
          case rel => exact ⟨by simp [intOf]; omega, k + 1, lost', _, _, ps', qs', by omega, by go_num, by omega, by omega, gpr, gk'.then0 hk34, GB.out.kept0 hk34⟩
    · have hkn' : ¬ (k : Int) < (n : Int) := by omega
      go_wp2_with fail
      refine (begun_any _).mono ?_
      rintro e w2 ⟨rfl, hk2⟩
      go_wp2
      go_ret
      exact ⟨rfl, hkr.then0 hk2⟩

theorem u8_bounds' {r : Int} (h : (Lit.int .u8 r).wf = true) : 0 ≤ r ∧ r ≤ 255 := by simpa [Lit.wf, IntKind.min, IntKind.max, IntKind.signed, IntKind.bits] using h

theorem plays_final (r : Int) (cv : Value) (cs : List CallD) (w : World) (hr : (Lit.int .u8 r).wf = true) (hin : CallsIn w cv cs) :
    Calls Try.prog 6 #[.int .u8 r, cv] w (RetNew (.bool true) w) :=
  plays_walk r (u8_bounds' hr).1 (u8_bounds' hr).2 cv cs w hin
end Go.Proofs.Ytcpidgpjifmimaa
