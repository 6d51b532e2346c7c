/-
  NetworkOrders: the walk: for every list of byte strings and every number the law returns true, and changes nothing that was there.
-/
import Derived.Test.YtcpidgpjifmimaaNetD
import Derived.Test.YtcpidgpjifmimaaNetF
import Derived.Test.YtcpidgpjifmimaaNetIn
import Derived.Test.YtcpidgpjifmimaaBase3
import Derived.LoopTactic
import Derived.Deep.LoopGhost
import Derived.Deep.CutBlock
namespace Go.Proofs.Ytcpidgpjifmimaa
open Go.RowKit Go.ChangeShapes Go.WideShapes Go.ChangeAt Go.Deep
set_option linter.unusedVariables false

def BssIn (w : World) (v : Value) (bs : List (Value × List UInt8)) : Prop :=
  ∃ A cap, v = .slice A bs.length cap ∧ bs.length ≤ cap ∧ cap ≤ maxLen ∧ (A = none → bs.length = 0 ∧ cap = 0) ∧
    (0 < bs.length → ∃ g o, A = some ⟨g, o, none⟩ ∧ ∀ i b, bs[i]? = some b → w.cell? ⟨g, o + i, none⟩ = some b.1 ∧ Bs w b.1 b.2 ∧ b.2.length ≤ maxLen)

theorem bss_of_trod {H : Type} {enc : TypeId × Value → H} {w : World} {base : Nat} {spare : Nat → Bool} {held : Bool} {fuel : Nat} {v : Value} {x : DataW H × List MemPlace}
    (h : DataW.trod enc Try.prog w base spare held fuel 48 [v] = some x) : ∃ bs : List (Value × List UInt8), BssIn w v bs := by
  rcases open_slice1 Try.underlying48 (by kernel_rfl) h with ⟨hcs, _⟩ | ⟨a, len, cap, m, n, V, D, Pl, hcs, _, hl, hm, hmm, _, hi⟩
  · injection hcs with hcs _
    subst hcs
    exact ⟨[], none, 0, rfl, by simp, by simp, fun _ => ⟨rfl, rfl⟩, fun h => by simp at h⟩
  · injection hcs with hcs _
    subst hcs
    have hlm : len ≤ m := by rw [hmm]; split <;> omega
    have hall : ∀ i, i < len → ∃ b : Value × List UInt8, w.cell? (a.add i) = some b.1 ∧ Bs w b.1 b.2 ∧ b.2.length ≤ maxLen := by
      intro i hil
      obtain ⟨c0, t0⟩ := hi i (by omega)
      obtain ⟨l, hbs, hll⟩ := bs_of_trod Try.underlying39 Try.underlying5 (by kernel_rfl) t0
      exact ⟨(V i, l), c0, hbs, hll⟩
    obtain ⟨bs, hbl, hbs⟩ := list_choose len _ hall
    refine ⟨bs, some a, cap, by rw [hbl], by omega, hm, (fun h => by cases h), fun h0 => ?_⟩
    obtain ⟨g, o, spot⟩ := a
    have hs : spot = none := by
      have := spot_none (hi 0 (by omega)).1
      simpa [Addr.add] using this
    subst hs
    refine ⟨g, o, rfl, fun i b hb => ?_⟩
    have := hbs i b hb
    rwa [add_lit0] at this

/-- What is sent for a byte string. -/
def cut60 (l : List UInt8) : List UInt8 := l.take (min l.length 60)
def sent (dst : Int) (b : Value × List UInt8) : Int × List UInt8 := (dst, cut60 b.2)

def OrdSend (w : World) (dst : Int) (bs : List (Value × List UInt8)) (n : Nat) (i : Value) (wr : World) : Prop :=
  ∃ (k : Nat) (v : Value) (ps : List Pk), k ≤ n ∧ i = .int .i64 k ∧ ps.map Pk.abs = (bs.take k).map (sent dst) ∧ Kept Kno w wr ∧ Net wr w.heap.size w.heap.size v ps 0 256
def OrdTake (w : World) (dst : Int) (bs : List (Value × List UInt8)) (n : Nat) (i : Value) (wr : World) : Prop :=
  ∃ (k : Nat) (v : Value) (ps : List Pk), k ≤ n ∧ i = .int .i64 k ∧ ps.map Pk.abs = ((bs.take n).drop k).map (sent dst) ∧ Kept Kno w wr ∧ Net wr w.heap.size w.heap.size v ps 0 256

set_option maxRecDepth 100000 in
set_option maxHeartbeats 4000000 in
theorem orders_walk (dst : Int) (lv : Value) (bs : List (Value × List UInt8)) (w : World) (hin : BssIn w lv bs) :
    Calls Try.prog 5 #[lv, .int .i64 dst] w (RetNew (.bool true) w) := by
  obtain ⟨A, cap, rfl, hlc, hcm, hnil, hcells⟩ := hin
  have HC := Lib.hid hcells
  have m4 : cap ≤ 9223372036854775807 := by simp only [maxLen] at hcm; omega
  have hmin : (if (256 : Int) < (bs.length : Int) then (256 : Int) else (bs.length : Int)) = ((min bs.length 256 : Nat) : Int) := min_natw bs.length 256
  have hn1 : min bs.length 256 ≤ 256 := Nat.min_le_right _ _
  have hn2 : min bs.length 256 ≤ bs.length := Nat.min_le_left _ _
  generalize min bs.length 256 = n at hmin hn1 hn2
  have hn3 : n ≤ cap := by omega
  have hn4 : (n : Int) ≤ (cap : Int) := by omega
  have hn5 : (0 : Int) ≤ (n : Int) := by omega
  clear hcells hnil hcm
  go_enter Try.func5, Try.ntmps5
  go_wp2_with fail
  refine (new_ok 256 _ (by omega) (by omega)).mono ?_
  rintro e w1 ⟨rfl, hw1⟩
  have hk1 : Kept Kno w w1 := by rw [hw1]; exact (Kept.refl _ _).alloc _
  have hn1 : Net w1 w.heap.size w.heap.size (.slice none 0 0) [] 0 256 := by rw [hw1]; exact net_new w _ 256 (Nat.le_refl _)
  have HN1 := Lib.hid hn1
  clear hw1 hn1
  go_wp2_with fail
  go_loopg [32] n (fun g i wr => g + (intOf i).toNat = n ∧ OrdSend w dst bs n i wr)
  case atStart => exact ⟨rfl, 0, _, [], Nat.zero_le _, rfl, rfl, hk1, HN1.out⟩
  case round =>
    obtain ⟨hg, k, v, ps, hkn, rfl, habs, hkr, hnet⟩ := hrel
    have HG := Lib.hid hg
    have HN := Lib.hid hnet
    have HA := Lib.hid habs
    clear hg hnet habs
    by_cases hkl : k < n
    · have hklt : (k : Int) < (n : Int) := by omega
      have hk0 : (0 : Int) ≤ (k : Int) := by omega
      obtain ⟨b, hb⟩ : ∃ b, bs[k]? = some b := ⟨bs[k]'(by omega), List.getElem?_eq_getElem (by omega)⟩
      obtain ⟨g, o, rfl, hcat⟩ := HC.out (by omega)
      obtain ⟨c0, hbs, hll⟩ := hcat k b hb
      have c1 := hkr.cell_some c0 (fun h => h)
      have hbr := Rd.kept0 hbs hkr
      obtain ⟨Ab, capb, hbv, hb1, hb2, hb3, hb4⟩ := hbs
      rw [hbv] at c1 hbr
      have HBR := Lib.hid hbr
      have HBK := Lib.hid hb
      have hm60 : (if (60 : Int) < (b.2.length : Int) then (60 : Int) else (b.2.length : Int)) = ((min b.2.length 60 : Nat) : Int) := min_natw b.2.length 60
      have q1 : min b.2.length 60 ≤ b.2.length := Nat.min_le_left _ _
      have q2 : min b.2.length 60 ≤ 60 := Nat.min_le_right _ _
      have HQ := Lib.hid (show cut60 b.2 = b.2.take (min b.2.length 60) from rfl)
      generalize min b.2.length 60 = m at hm60 q1 q2 HQ
      have q3 : m ≤ capb := by omega
      have q4 : (m : Int) ≤ (capb : Int) := by omega
      have hpl : ps.length = k := by
        have := congrArg List.length HA.out
        simp only [List.length_map, List.length_take] at this
        omega
      have hpr : (ps.length : Int) < 256 := by omega
      have hpn : ps.length ≤ 1000000 := by omega
      have HPL := Lib.hid hpl
      have hbase : w.heap.size ≤ wr.heap.size := hkr.size
      have n60 : b.2.length ≤ 9223372036854775807 := by simp only [maxLen] at hll; omega
      clear hcat hb hb2 hb3 hb4 hbr c0 hbv hpl
      go_wp2_with fail
      refine (send_yes w.heap.size w.heap.size _ _ ps 0 256 dst _ _ HN.out (Bs.cut HBR.out q1) ?_ hbase hpn hpr).mono ?_
      · rw [List.length_take]; omega
      rintro e wb ⟨rfl, v2, p2, hp1, hp2, hn2, hk2, hm2, hq2⟩
      go_wp2_with fail
      have hg := HG.out
      simp [intOf] at hg
      go_roundg (gk - 1)
      case measure => omega
      case rel =>
        refine ⟨by simp [intOf]; omega, k + 1, v2, ps ++ [p2], by omega, by go_num, ?_, kept_net hkr HN.out (Nat.le_refl _) hk2, hn2⟩
        rw [List.map_append, HA.out, List.take_add_one, HBK.out]
        simp [sent, Pk.abs, hp1, hp2, HQ.out]
    · have hkn' : ¬ (k : Int) < (n : Int) := by omega
      have hkeq : n = k := by omega
      subst hkeq
      clear hkn hkl hmin
      go_wp2_with fail
      go_loopg [48] n (fun g i wr => g + (intOf i).toNat = n ∧ OrdTake w dst bs n i wr)
      case atStart => exact ⟨rfl, 0, _, ps, Nat.zero_le _, rfl, HA.out, hkr, HN.out⟩
      case round =>
        clear HN HA hkr
        obtain ⟨hg, j, v', ps', hjk, rfl, habs, hkr, hnet⟩ := hrel
        have HGJ := Lib.hid hg
        clear hg hkn'
        have hlen : ps'.length = n - j := by
          have := congrArg List.length habs
          simp only [List.length_map, List.length_drop, List.length_take] at this
          omega
        by_cases hjl : j < n
        · have hjlt : (j : Int) < (n : Int) := by omega
          have hj0 : (0 : Int) ≤ (j : Int) := by omega
          obtain ⟨b, hb⟩ : ∃ b, bs[j]? = some b := ⟨bs[j]'(by omega), List.getElem?_eq_getElem (by omega)⟩
          obtain ⟨p, rest, hps⟩ : ∃ p rest, ps' = p :: rest := by
            cases ps' with
            | nil => simp at hlen; omega
            | cons p rest => exact ⟨p, rest, rfl⟩
          subst hps
          have hdrop : (bs.take n).drop j = b :: (bs.take n).drop (j + 1) := by
            rw [List.drop_eq_getElem_cons (by rw [List.length_take]; omega), List.getElem_take]
            congr 1
            exact (List.getElem?_eq_some_iff.1 hb).2
          rw [hdrop, List.map_cons, List.map_cons, List.cons.injEq] at habs
          obtain ⟨hp, hrest⟩ := habs
          obtain ⟨pd, pv, pl⟩ := p
          simp only [Pk.abs, sent, Prod.mk.injEq] at hp
          obtain ⟨rfl, hpl⟩ := hp
          obtain ⟨g, o, rfl, hcat⟩ := HC.out (by omega)
          obtain ⟨c0, hbs, hll⟩ := hcat j b hb
          have c1 := hkr.cell_some c0 (fun h => h)
          have hbr : Bs w b.1 b.2 := hbs
          obtain ⟨Ab, capb, hbv, hb1, hb2, hb3, hb4⟩ := hbs
          rw [hbv] at c1 hbr
          have hm60 : (if (60 : Int) < (b.2.length : Int) then (60 : Int) else (b.2.length : Int)) = ((min b.2.length 60 : Nat) : Int) := min_natw b.2.length 60
          have q1 : min b.2.length 60 ≤ b.2.length := Nat.min_le_left _ _
          unfold cut60 at hpl
          generalize min b.2.length 60 = m at hm60 q1 hpl
          have hcut := Bs.cut hbr q1
          rw [← hpl] at hcut
          have q3 : m ≤ capb := by omega
          have q4 : (m : Int) ≤ (capb : Int) := by omega
          have q5 : (0 : Int) ≤ (m : Int) := by omega
          have n60 : b.2.length ≤ 9223372036854775807 := by simp only [maxLen] at hll; omega
          have hrl : rest.length = n - j - 1 := by simp at hlen; omega
          have hpn : (⟨pd, pv, pl⟩ :: rest : List Pk).length ≤ 1000000 := by omega
          have HCUT := Lib.hid hcut
          have HN := Lib.hid hnet
          have HREST := Lib.hid hrest
          have HRL := Lib.hid hrl
          clear hcat hb hb2 hb3 hb4 hbr c0 hbv hll hpl hcut hnet hrest hrl hdrop hlen
          go_wp2_with fail
          refine (take_yes w.heap.size w.heap.size 0 _ _ ⟨pd, pv, pl⟩ 0 256 _ HN.out rfl hpn).mono ?_
          rintro e wb ⟨A2, cap2, v2, rfl, ho2, hn2, hk2, hm2⟩
          have hkb : Kept Kno w wb := kept_net hkr HN.out (Nat.le_refl _) hk2
          obtain ⟨Av, capv, hv2⟩ := own_form hn2.2.2.1
          subst hv2
          simp only [List.eraseIdx_cons_zero] at hn2
          have hna := hn2.kept0 ((Kept.refl _ _).alloc (.cells #[.int .i64 pd, .slice A2 pl.length cap2] 44))
          have hka := hkb.alloc (.cells #[.int .i64 pd, .slice A2 pl.length cap2] 44)
          have hs1 : Bs (wb.alloc (.cells #[.int .i64 pd, .slice A2 pl.length cap2] 44)) (.slice A2 pl.length cap2) pl := Rd.alloc ho2.bs _
          have hs2 : Bs (wb.alloc (.cells #[.int .i64 pd, .slice A2 pl.length cap2] 44)) (.slice Ab m capb) pl := Rd.kept0 HCUT.out hka
          have hq := Blk.new wb 44 #[.int .i64 pd, .slice A2 pl.length cap2]
          have hbase : wb.heap.size < (wb.alloc (.cells #[.int .i64 pd, .slice A2 pl.length cap2] 44)).heap.size := hq.lt
          have t1 : ∀ x : Nat, (convert 39 9 (.slice A2 pl.length cap2)).run Try.prog ((wb.alloc (.cells #[.int .i64 pd, .slice A2 pl.length cap2] 44)).drewN x) = .ok (.string ⟨pl.toArray⟩) ((wb.alloc (.cells #[.int .i64 pd, .slice A2 pl.length cap2] 44)).drewN x) :=
            fun x => run_string_bs 39 9 5 (Rd.drewN hs1 x) Try.underlying39 Try.underlying5 Try.underlying9
          have t2 : ∀ x : Nat, (convert 39 9 (.slice Ab m capb)).run Try.prog ((wb.alloc (.cells #[.int .i64 pd, .slice A2 pl.length cap2] 44)).drewN x) = .ok (.string ⟨pl.toArray⟩) ((wb.alloc (.cells #[.int .i64 pd, .slice A2 pl.length cap2] 44)).drewN x) :=
            fun x => run_string_bs 39 9 5 (Rd.drewN hs2 x) Try.underlying39 Try.underlying5 Try.underlying9
          have b0 : (wb.alloc (.cells #[.int .i64 pd, .slice A2 pl.length cap2] 44)).cell? ⟨w.heap.size, 0, none⟩ = some (.slice Av rest.length capv) := hna.2.1.cell 0
          have HL := Lib.hid (show ∀ x : Nat, Calls Try.prog 10 #[.pointer (some ⟨w.heap.size, 0, none⟩)] ((wb.alloc (.cells #[.int .i64 pd, .slice A2 pl.length cap2] 44)).drewN x) (fun e w' => e = .returned (.int .i64 rest.length) ∧ w' = (wb.alloc (.cells #[.int .i64 pd, .slice A2 pl.length cap2] 44)).drewN x) from
            fun x => (len_any w.heap.size 0 rest.length capv Av ((wb.alloc (.cells #[.int .i64 pd, .slice A2 pl.length cap2] 44)).drewN x) b0).mono fun _ _ ⟨h1, h2⟩ => ⟨h1, h2.symm⟩)
          have z1 : ((rest.length : Int) != (n : Int) - 1 - (j : Int)) = false := by have := HRL.out; simp; omega
          have HN2 := Lib.hid hna
          have HRR := Lib.hid ho2
          clear hna hs1 hs2 hq b0 ho2 hn2
          go_wp2_with fail
          go_quiet ((go_at_call 10; exact Calls.quiet_of_same (HL.out _)))
          go_wp2_with fail
          have hg := HGJ.out
          simp [intOf] at hg
          go_roundg (gk - 1)
          case measure => omega
          case rel => exact ⟨by simp [intOf]; omega, j + 1, _, rest, by omega, by go_num, HREST.out, hka.drewN _, HN2.out⟩
        · have hjn : ¬ (j : Int) < (n : Int) := by omega
          have hnil : ps' = [] := List.eq_nil_of_length_eq_zero (by omega)
          subst hnil
          obtain ⟨Av, capv, hv2⟩ := own_form hnet.2.2.1
          subst hv2
          have b0 : wr.cell? ⟨w.heap.size, 0, none⟩ = some (.slice Av 0 capv) := hnet.2.1.cell 0
          clear hnet habs
          go_wp2_with fail
          refine (take_no w.heap.size 0 capv Av 0 _ b0 (by omega)).mono ?_
          rintro e w2 ⟨rfl, hk2⟩
          go_wp2_with fail
          refine (begun_any _).mono ?_
          rintro e w3 ⟨rfl, hk3⟩
          go_wp2
          go_ret
          exact ⟨rfl, ((hkr.then0 hk2).alloc _).then0 hk3⟩

theorem orders_final (lv : Value) (bs : List (Value × List UInt8)) (dst : Int) (w : World) (hin : BssIn w lv bs) (hd : (Lit.int .i64 dst).wf = true) :
    Calls Try.prog 5 #[lv, .int .i64 dst] w (RetNew (.bool true) w) := orders_walk dst lv bs w hin
end Go.Proofs.Ytcpidgpjifmimaa
