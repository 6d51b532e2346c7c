/-
  DiskOwns: the walk: for all bytes and every file the law returns true, and changes nothing that was there.
-/
import Derived.Test.YtpkpinkjjknbdaaDiskK
import Derived.Test.YtpkpinkjjknbdaaBytesIn
namespace Go.Proofs.Ytpkpinkjjknbdaa
open Go.RowKit Go.ChangeShapes Go.WideShapes Go.ChangeAt
set_option linter.unusedVariables false

def ab1 (i : Nat) (L : List UInt8) (s : Nat) : Ab := ⟨4000, (List.replicate 8 (([] : List UInt8), 0)).set i (L, s), false, 0⟩
theorem ab1_file (i : Nat) (hi : i < 8) (L : List UInt8) (s : Nat) : (ab1 i L s).file i = (L, s) := by
  unfold Ab.file ab1
  rw [List.getD, List.getElem?_set_self (by simpa using hi)]
  rfl
theorem ab1_used (i : Nat) (hi : i < 8) (L : List UInt8) (s : Nat) : (ab1 i L s).used = L.length := by
  rcases i with _ | _ | _ | _ | _ | _ | _ | _ | i
  all_goals first | (simp [Ab.used, ab1, List.replicate]; done) | omega
theorem ab1_set (i : Nat) (L M : List UInt8) (s t : Nat) : (ab1 i L s).fs.set i (M, t) = (ab1 i M t).fs := by simp [ab1]
theorem ab0_rep (i : Nat) (hi : i < 8) (L : List UInt8) (h : L.length ≤ 4000) : (ab0 4000).replace i L = (ab1 i L L.length, 0) := by
  have e1 : checkOf (ab0 4000).off (i : Int) = 0 := checkOf_ok hi
  have e2 : ((ab0 4000).file i).1 = [] := by
    rcases i with _ | _ | _ | _ | _ | _ | _ | _ | i
    all_goals first | rfl | omega
  have e3 : (ab0 4000).used = 0 := by decide
  unfold Ab.replace
  rw [if_neg (by rw [e1]; simp), Int.toNat_natCast, e2, e3, if_neg (by simp only [ab0, List.length_nil]; omega)]
  rfl
theorem ab1_read (i : Nat) (hi : i < 8) (L : List UInt8) (s : Nat) : (ab1 i L s).read i = (L, 0) := by
  have e1 : checkOf (ab1 i L s).off (i : Int) = 0 := checkOf_ok hi
  unfold Ab.read
  rw [if_neg (by rw [e1]; simp), Int.toNat_natCast, ab1_file i hi]
theorem ab1_app (i : Nat) (hi : i < 8) (L M : List UInt8) (s : Nat) (h : L.length + M.length ≤ 4000) : (ab1 i L s).append i M = (ab1 i (L ++ M) s, 0) := by
  have e1 : checkOf (ab1 i L s).off (i : Int) = 0 := checkOf_ok hi
  unfold Ab.append
  rw [if_neg (by rw [e1]; simp), Int.toNat_natCast, ab1_file i hi, ab1_used i hi, if_neg (by simp only [ab1]; omega)]
  show (_, _) = _
  simp [ab1]

/-- A row of bytes, bumped one by one. -/
def BumpRel (A : Option Addr) (n cap : Nat) (w5 : World) (i : Value) (wr : World) : Prop :=
  ∃ k : Nat, k ≤ n ∧ i = .int .i64 k ∧ Kept (fun b => (Value.slice A n cap).ownBlock = some b) w5 wr ∧ ∀ g, A = some ⟨g, 0, none⟩ → ∃ cur, Blk wr g 5 cur ∧ ∀ j, j < n → ∃ x : Int, cur[j]? = some (.int .u8 x)
theorem bump_start {A : Option Addr} {cap base : Nat} {w5 : World} {l : List UInt8} (h : OwnB w5 base 5 (.slice A l.length cap) l) : BumpRel A l.length cap w5 (.int .i64 0) w5 := by
  refine ⟨0, Nat.zero_le _, rfl, Kept.refl _ _, fun g hg => ?_⟩
  subst hg
  rcases h.2 with ⟨h3, h4⟩ | ⟨g', cap', cur, h3, hb, hh, hnc, hcm, hs, ht⟩
  · cases h3
  · injection h3 with hA hn hc
    injection hA with hA
    injection hA with hA
    subst hA
    refine ⟨cur, hh, fun j hj => ⟨l[j].toNat, ?_⟩⟩
    have h5 : (cur.toList.take (l.length * 1))[j]? = some (bv l[j]) := by rw [ht, List.getElem?_map, List.getElem?_eq_getElem hj]; rfl
    rw [List.getElem?_take] at h5
    split at h5
    · simpa [bv] using h5
    · cases h5
theorem bump_at {A : Option Addr} {cap base n k : Nat} {w5 wr : World} {l : List UInt8} (h : OwnB w5 base 5 (.slice A l.length cap) l) (hn : k < l.length) : ∃ g, A = some ⟨g, 0, none⟩ := by
  rcases h.2 with ⟨h3, h4⟩ | ⟨g', cap', cur, h3, hb, hh, hnc, hcm, hs, ht⟩
  · omega
  · injection h3 with hA hn hc
    exact ⟨g', hA⟩
theorem bump_step {g n cap k : Nat} {w5 wr : World} {cur : Array Value} {y : Int} (hk : k < n) (hkk : Kept (fun b => (Value.slice (some ⟨g, 0, none⟩) n cap).ownBlock = some b) w5 wr) (hb : Blk wr g 5 cur) (hc : ∀ j, j < n → ∃ x : Int, cur[j]? = some (.int .u8 x)) :
    BumpRel (some ⟨g, 0, none⟩) n cap w5 (.int .i64 ((k : Int) + 1)) (wr.setCell ⟨g, k, none⟩ (.int .u8 y)) := by
  refine ⟨k + 1, by omega, by go_num, hkk.setIn (by rfl) _, fun g' hg' => ?_⟩
  injection hg' with hg'
  injection hg' with hg'
  subst hg'
  refine ⟨_, hb.set_ k _, fun j hj => ?_⟩
  by_cases hjk : k = j
  · subst hjk
    refine ⟨y, ?_⟩
    obtain ⟨x, hx⟩ := hc k hj
    have : k < cur.size := (Array.getElem?_eq_some_iff.1 hx).1
    simp [this]
  · obtain ⟨x, hx⟩ := hc j hj
    exact ⟨x, by rw [Array.getElem?_setIfInBounds_ne hjk]; exact hx⟩

set_option maxHeartbeats 4000000 in
theorem owns_walk (bv0 : Value) (l : List UInt8) (rn : Nat) (hrn : rn ≤ 255) (w : World) (hin : Bs w bv0 l) (hll : l.length ≤ maxLen) :
    Calls Try.prog 4 #[bv0, .int .u8 rn] w (RetNew (.bool true) w) := by
  obtain ⟨i, hri, hi8⟩ : ∃ i : Nat, (rn : Int) % 8 = (i : Int) ∧ i < 8 := ⟨rn % 8, by omega, by omega⟩
  obtain ⟨i0, hi, hz0, hz1, hz2⟩ := info_parts info_byte
  have HIN := Lib.hid hin
  obtain ⟨Ab, capb, rfl, hb1, hb2, hb3, hb4⟩ := hin
  have hmin : (if (2000 : Int) < (l.length : Int) then (2000 : Int) else (l.length : Int)) = ((min l.length 2000 : Nat) : Int) := min_natw l.length 2000
  have q1 : min l.length 2000 ≤ l.length := Nat.min_le_left _ _
  have q2 : min l.length 2000 ≤ 2000 := Nat.min_le_right _ _
  generalize min l.length 2000 = m at hmin q1 q2
  have q3 : m ≤ capb := by omega
  have q4 : (m : Int) ≤ (capb : Int) := by omega
  have q5 : (0 : Int) ≤ (m : Int) := by omega
  have n60 : l.length ≤ 9223372036854775807 := by simp only [maxLen] at hll; omega
  have hcut := Bs.cut HIN.out q1
  have hlm : (l.take m).length = m := by rw [List.length_take]; omega
  generalize l.take m = L at hcut hlm
  subst hlm
  have HCUT := Lib.hid hcut
  clear hb2 hb3 hb4 hcut hll
  go_enter Try.func4, Try.ntmps4
  go_wp2_with fail
  refine (new_ok 4000 _ (by omega) (by omega)).mono ?_
  rintro e w1 ⟨rfl, hw1⟩
  have hk1 : Kept Kno w w1 := by rw [hw1]; exact (Kept.refl _ _).alloc _
  have hn1 : Is w1 w.heap.size w.heap.size (List.replicate 8 noFile) (ab0 4000) := by rw [hw1]; exact is_new w _ 4000 (Nat.le_refl _) (by omega) (by omega)
  have HN1 := Lib.hid hn1
  clear hw1 hn1
  have r1 : Rd w1 1 (.slice Ab L.length capb) L.length (L.map bv) := Rd.kept0 HCUT.out hk1
  have r2 : 0 + L.length ≤ maxLen := by simp only [maxLen]; omega
  have R1 := Lib.hid r1
  clear r1
  go_wp2_with (at_builtin; first
    | (refine wpList_append_rd _ rfl _ _ 33 rfl w1.heap.size 5 i0 _ 1 1 Try.underlying33 hi hz0 hz1 hz2 rfl (by decide) (.slice none 0 0) 0 [] rfl (World.ownsRow_nil _ _ _ _) _ L.length (L.map bv) rfl R1.out (bvs_one L) r2 (by omega) (Nat.le_refl _) ?_
       intro A1 cap1 w2 hown hg hat
       simp only [Nat.zero_add, List.nil_append] at hown hat
       have hk12 : Kept Kno w1 w2 := (Kept.refl _ _).grown hg (fun k hk e => by cases e)
       have HO := Lib.hid hown
       clear hown hg hat)
    | (refine wpList_append_rd _ rfl _ _ 33 rfl w2.heap.size 5 i0 _ 1 1 Try.underlying33 hi hz0 hz1 hz2 rfl (by decide) (.slice none 0 0) 0 [] rfl (World.ownsRow_nil _ _ _ _) _ L.length (L.map bv) rfl (Rd.of_own HO.out) (bvs_one L) r2 (by omega) (Nat.le_refl _) ?_
       intro A2 cap2 w3 hown2 hg2 hat2
       simp only [Nat.zero_add, List.nil_append] at hown2 hat2
       have hk23 : Kept Kno w2 w3 := (Kept.refl _ _).grown hg2 (fun k hk e => by cases e)
       have HO2 := Lib.hid hown2
       clear hown2 hg2 hat2))
  have HI3 := Lib.hid (HN1.out.kept0 (hk12.then0 hk23))
  have HA3 : Hid (OwnB w3 w1.heap.size 5 (.slice A1 L.length cap1) L) := Lib.hid (own_kept HO.out hk23 (fun _ _ h => h))
  have hk3 : Kept Kno w w3 := hk1.then0 (hk12.then0 hk23)
  have hs12 := hk12.size
  have hs23 := hk23.size
  refine (replace_any i _ L HI3.out HA3.out.bs).mono ?_
  rw [ab0_rep i hi8 L (by omega)]
  rintro e w4 ⟨rfl, ht⟩
  obtain ⟨fs4, hi4, hkk4, hd4⟩ := ht.is
  have hk4 : Kept Kno w w4 := HI3.out.kept hk3 (Nat.le_refl _) hkk4
  have hnD : ∀ k, w1.heap.size ≤ k → ¬ DK w.heap.size (List.replicate 8 noFile) k := fun k hk h => by have := (HN1.out.low h).2; omega
  have hoA : OwnB w4 w1.heap.size 5 (.slice A1 L.length cap1) L := own_kept HA3.out hkk4 (fun k hk => hnD k (own_base HA3.out hk).1)
  have hoB : OwnB w4 w2.heap.size 5 (.slice A2 L.length cap2) L := own_kept HO2.out hkk4 (fun k hk => hnD k (Nat.le_trans hs12 (own_base HO2.out hk).1))
  have hAB : ∀ k, (Value.slice A2 L.length cap2).ownBlock = some k → (Value.slice A1 L.length cap1).ownBlock ≠ some k := fun k hk e => by
    have h1 := (own_base HO2.out hk).1
    have h2 := (own_base HO.out e).2
    omega
  have hAD : ∀ k, (Value.slice A1 L.length cap1).ownBlock = some k → ¬ DK w.heap.size fs4 k := fun k hk h => by
    rcases hd4 k h with h1 | h1
    · exact hnD k (own_base HO.out hk).1 h1
    · have := (own_base HA3.out hk).2; omega
  have hBD : ∀ k, (Value.slice A2 L.length cap2).ownBlock = some k → ¬ DK w.heap.size fs4 k := fun k hk h => by
    rcases hd4 k h with h1 | h1
    · exact hnD k (Nat.le_trans hs12 (own_base HO2.out hk).1) h1
    · have := (own_base HO2.out hk).2; omega
  have HI4 := Lib.hid hi4
  have HOA := Lib.hid hoA
  have HOB := Lib.hid hoB
  have HAB := Lib.hid hAB
  have HAD := Lib.hid hAD
  have HBD := Lib.hid hBD
  clear ht hi4 hkk4 hd4 hoA hoB hAB hAD hBD hnD HI3 HA3 HO HO2 HN1 R1 HCUT HIN
  go_wp2_with fail
  go_loopw [48] (fun i wr => BumpRel A1 L.length cap1 w4 i wr) (fun i _ => L.length - (intOf i).toNat)
  case atStart => exact bump_start HOA.out
  case round =>
    obtain ⟨k, hk, rfl, hkk, hcur⟩ := hrel
    by_cases hlt : k < L.length
    · obtain ⟨g, rfl⟩ := bump_at (n := 0) (wr := wr) HOA.out hlt
      obtain ⟨cur, hb, hx⟩ := hcur g rfl
      obtain ⟨x, hxk⟩ := hx k hlt
      have c1 : wr.cell? ⟨g, k, none⟩ = some (.int .u8 x) := (hb.cell k).trans hxk
      have c2 := hb.frozen k
      have hk0 : (0 : Int) ≤ (k : Int) := by omega
      have hk9 : (k : Int) < (L.length : Int) := by omega
      have HX := Lib.hid hx
      have HB := Lib.hid hb
      have HKK := Lib.hid hkk
      clear hcur hx hxk hb hkk
      go_wp2
      go_roundw
      case rel => exact bump_step hlt HKK.out HB.out HX.out
      case measure => simp [intOf]; omega
    · have hk9 : ¬ (k : Int) < (L.length : Int) := by omega
      have hi5 : Is wr w.heap.size w.heap.size fs4 (ab1 i L L.length) := ⟨HI4.out.1.kept hkk (fun h => HAD.out _ h (.inl rfl)) (fun f hf k h1 h2 => HAD.out _ h2 (.inr ⟨f, hf, h1⟩)), HI4.out.2⟩
      have hoB5 : OwnB wr w2.heap.size 5 (.slice A2 L.length cap2) L := own_kept HOB.out hkk HAB.out
      have hk5 : Kept Kno w wr := hk4.trans hkk (fun k hk h => by have := (own_base HOA.out h).1; have := hk1.size; omega)
      have HI5 := Lib.hid hi5
      have HOB5 := Lib.hid hoB5
      have HK45 := Lib.hid hkk.size
      clear hcur hkk hi5 hoB5 HI4 HOB HOA HAB HAD
      go_wp2_with fail
      refine (read_any i HI5.out).mono ?_
      rw [ab1_read i hi8]
      rintro e w6 ⟨A3, cap3, rfl, hown6, hkk6⟩
      have HO6 := Lib.hid hown6
      have HI6 := Lib.hid (HI5.out.kept0 hkk6)
      have HOB6 : Hid (OwnB w6 w2.heap.size 5 (.slice A2 L.length cap2) L) := Lib.hid (own_kept HOB5.out hkk6 (fun _ _ h => h))
      have hk6 : Kept Kno w w6 := hk5.then0 hkk6
      have hPD : ∀ k, (Value.slice A3 L.length cap3).ownBlock = some k → ¬ DK w.heap.size fs4 k := fun k hk h => by
        have h1 := (own_base HO6.out hk).1
        have h2 := (HI5.out.low h).2
        omega
      have hPB : ∀ k, (Value.slice A2 L.length cap2).ownBlock = some k → (Value.slice A3 L.length cap3).ownBlock ≠ some k := fun k hk e => by
        have h1 := (own_base HO6.out e).1
        have h2 := (own_base HOB5.out hk).2
        omega
      have HPD := Lib.hid hPD
      have HPB := Lib.hid hPB
      clear hown6 hPD hPB HI5 HOB5
      go_wp2_with fail
      go_loopw [66] (fun i wr => BumpRel A3 L.length cap3 w6 i wr) (fun i _ => L.length - (intOf i).toNat)
      case atStart => exact bump_start HO6.out
      case round =>
        obtain ⟨k', hk', rfl, hkk', hcur'⟩ := hrel
        by_cases hlt' : k' < L.length
        · obtain ⟨g, rfl⟩ := bump_at (n := 0) (wr := wr) HO6.out hlt'
          obtain ⟨cur, hb, hx⟩ := hcur' g rfl
          obtain ⟨x, hxk⟩ := hx k' hlt'
          have c1 : wr.cell? ⟨g, k', none⟩ = some (.int .u8 x) := (hb.cell k').trans hxk
          have c2 := hb.frozen k'
          have hk0 : (0 : Int) ≤ (k' : Int) := by omega
          have hk99 : (k' : Int) < (L.length : Int) := by omega
          have HX := Lib.hid hx
          have HB := Lib.hid hb
          have HKK := Lib.hid hkk'
          clear hcur' hx hxk hb hkk'
          go_wp2
          go_roundw
          case rel => exact bump_step hlt' HKK.out HB.out HX.out
          case measure => simp [intOf]; omega
        · have hk99 : ¬ (k' : Int) < (L.length : Int) := by omega
          have hi7 : Is wr w.heap.size w.heap.size fs4 (ab1 i L L.length) := ⟨HI6.out.1.kept hkk' (fun h => HPD.out _ h (.inl rfl)) (fun f hf k h1 h2 => HPD.out _ h2 (.inr ⟨f, hf, h1⟩)), HI6.out.2⟩
          have hoB7 : OwnB wr w2.heap.size 5 (.slice A2 L.length cap2) L := own_kept HOB6.out hkk' HPB.out
          have hk7 : Kept Kno w wr := hk6.trans hkk' (fun k hk h => by have := (own_base HO6.out h).1; have := hk5.size; omega)
          have HI7 := Lib.hid hi7
          have HOB7 := Lib.hid hoB7
          clear hcur' hkk' hi7 hoB7 HI6 HOB6 HO6 HPB HPD
          go_wp2_with fail
          refine (read_any i HI7.out).mono ?_
          rw [ab1_read i hi8]
          rintro e w8 ⟨A4, cap4, rfl, hown8, hkk8⟩
          have HI8 := Lib.hid (HI7.out.kept0 hkk8)
          have HOB8 : Hid (OwnB w8 w2.heap.size 5 (.slice A2 L.length cap2) L) := Lib.hid (own_kept HOB7.out hkk8 (fun _ _ h => h))
          have hk8 : Kept Kno w w8 := hk7.then0 hkk8
          have HO8 := Lib.hid hown8
          clear hown8 HI7 HOB7
          go_wp2_with fail
          refine (equal_any _ _ L L _ HO8.out.bs HOB8.out.bs).mono ?_
          rw [decide_eq_true (Eq.refl L)]
          rintro e w9 ⟨rfl, rfl⟩
          go_wp2_with fail
          refine (append_any i _ L HI8.out HOB8.out.bs).mono ?_
          rw [ab1_app i hi8 L L L.length (by omega)]
          rintro e w9 ⟨rfl, ht⟩
          obtain ⟨fs9, hi9, hkk9, -⟩ := ht.is
          have hk9' : Kept Kno w w9 := HI8.out.kept hk8 (Nat.le_refl _) hkk9
          have HI9 := Lib.hid hi9
          clear ht hi9 hkk9 HI8 HOB8 HO8
          go_wp2_with fail
          refine (size_any i HI9.out).mono ?_
          rw [ab1_read i hi8, List.length_append]
          rintro e w10 ⟨rfl, rfl⟩
          have hdb : ((L.length + L.length : Nat) : Int) = 2 * (L.length : Int) := by omega
          rw [hdb]
          clear hdb
          go_wp2_with fail
          refine (begun_any _).mono ?_
          rintro e w11 ⟨rfl, hk11⟩
          go_wp2
          go_ret
          exact ⟨rfl, hk9'.then0 hk11⟩

theorem owns_final (bv0 : Value) (l : List UInt8) (r : Int) (w : World) (hin : Bs w bv0 l ∧ l.length ≤ maxLen) (hr : (Lit.int .u8 r).wf = true) :
    Calls Try.prog 4 #[bv0, .int .u8 r] w (RetNew (.bool true) w) := by
  have hx : 0 ≤ r ∧ r ≤ 255 := by simpa [Lit.wf, IntKind.min, IntKind.max, IntKind.signed, IntKind.bits] using hr
  obtain ⟨n, rfl⟩ : ∃ n : Nat, r = (n : Int) := ⟨r.toNat, by omega⟩
  exact owns_walk bv0 l n (by omega) w hin.1 hin.2
end Go.Proofs.Ytpkpinkjjknbdaa
