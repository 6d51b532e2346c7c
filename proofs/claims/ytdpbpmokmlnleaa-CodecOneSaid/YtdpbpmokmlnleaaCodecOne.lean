/-
  CodecOne: the walk.
-/
import Derived.Test.YtdpbpmokmlnleaaCodecCuts
import Derived.Test.YtdpbpmokmlnleaaCodecV
namespace Go.Proofs.Ytdpbpmokmlnleaa
open Go.RowKit
set_option linter.unusedVariables false

def BoolOk (K : Nat) (v : Value) (l : List UInt8) (w : World) (e : Ending) (w' : World) : Prop := ∃ b : Bool, e = .returned (.bool b) ∧ Goes K v l w w'
set_option maxHeartbeats 1000000 in
theorem bool_any (K a n : Nat) (v : Value) (l : List UInt8) (w : World) (h : CaseIs w K v l a) (hn : 1 ≤ n) (hn2 : n ≤ 1000000) :
    Calls Try.prog 38 #[.pointer (some ⟨K, 0, none⟩), .int .i64 n] w (BoolOk K v l w) := by
  have H := Lib.hid h
  clear h
  go_enter Try.func38, Try.ntmps38
  go_wp2_with fail
  refine (int_any K a n v l w H.out hn hn2).mono ?_
  rintro e w1 ⟨m, hm, rfl, hg⟩
  have HX : Hid (∀ b, BoolOk K v l w (.returned (.bool b)) w1) := Lib.hid (fun b => ⟨b, rfl, hg⟩)
  clear hg
  go_wp2
  go_ret
  exact HX.out _

theorem rowAt_err {l : List UInt8} {n : Nat} {c : Int} (h : rowAt l n = .error c) : c ≠ 0 := by
  have hvs : ∀ (N : Nat) (m : Nat) (c : Int), valsAt N l m = .error c → c ≠ 0 := by
    intro N
    induction N with
    | zero => intro m c h; cases h
    | succ N ih =>
      intro m c h
      simp only [valsAt] at h
      cases hv : valAt l m with
      | error e => rw [hv] at h; cases h; exact valAt_err hv
      | ok p =>
        rw [hv] at h
        simp only at h
        cases hw : valsAt N l (m + p.2) with
        | error e => rw [hw] at h; cases h; exact ih _ _ hw
        | ok q => rw [hw] at h; cases h
  unfold rowAt at h
  cases hx : uintAt l n with
  | error e => rw [hx] at h; cases h; have := uintAt_err hx; omega
  | ok p =>
    rw [hx] at h
    simp only at h
    split at h
    · cases h; decide
    · cases hw : valsAt p.1 l (n + p.2) with
      | error e => rw [hw] at h; cases h; exact hvs _ _ _ hw
      | ok q => rw [hw] at h; cases h

theorem xor_u8 (a b : Int) : ∃ c : UInt8, bits BinOp.xor IntKind.u8 a b = (c.toNat : Int) := by
  have h : ∃ z : Int, bits BinOp.xor IntKind.u8 a b = IntKind.u8.wrap z := ⟨_, rfl⟩
  obtain ⟨z, hz⟩ := h
  refine ⟨UInt8.ofNat (z % 256).toNat, ?_⟩
  rw [hz, IntKind.wrap_u8, UInt8.toNat_ofNat']
  omega
/-- One byte of an own row, written. -/
theorem own_put {w : World} {base g cap i : Nat} {L : List UInt8} (h : OwnB w base 5 (.slice (some ⟨g, 0, none⟩) L.length cap) L) (c : UInt8) : OwnB (w.setCell ⟨g, i, none⟩ (.int .u8 c.toNat)) base 5 (.slice (some ⟨g, 0, none⟩) (L.set i c).length cap) (L.set i c) := by
  have := (World.ownsRow.stored h i (.int .u8 c.toNat)).1
  unfold OwnB
  rw [List.length_set, List.map_set]
  exact this
theorem own_head {w : World} {base cap : Nat} {A : Option Addr} {L : List UInt8} (h : OwnB w base 5 (.slice A L.length cap) L) (h0 : 0 < L.length) : ∃ g, A = some ⟨g, 0, none⟩ ∧ base ≤ g ∧ L.length ≤ cap ∧ (∀ (i : Nat) (c : UInt8), L[i]? = some c → w.cell? ⟨g, i, none⟩ = some (.int .u8 c.toNat)) ∧ ∀ i, w.frozen? ⟨g, i, none⟩ = false := by
  rcases h.2 with ⟨h1, h2⟩ | ⟨g, cap', cur, h1, hb, hh, hnc, hcm, hs, ht⟩
  · omega
  · injection h1 with e1 e2 e3
    subst e1 e3
    refine ⟨g, rfl, hb, hnc, fun i c hc => ?_, fun i => ?_⟩
    · have hi : i < L.length := (List.getElem?_eq_some_iff.1 hc).1
      rw [cell_of_row w g _ cur _ (0, 0) hh]
      have h9 : (L.map bv)[i]? = some (bv c) := by rw [List.getElem?_map, hc]; rfl
      rw [← ht, List.getElem?_take, if_pos (by omega)] at h9
      simpa [bv] using h9
    · exact Blk.frozen (t := 5) (cs := cur) hh i

set_option maxRecDepth 100000 in
set_option maxHeartbeats 8000000 in
theorem one_walk (cv dv : Value) (lc l : List UInt8) (a b : Nat) (w : World) (hc : Bs w cv lc) (hcl : lc.length ≤ maxLen) (hd : Bs w dv l) (hdl : l.length ≤ maxLen) (ha : a < 256) (hb : b < 256) :
    Calls Try.prog 7 #[cv, dv, .int .u8 a, .int .u8 b] w (RetNew (.bool true) w) := by
  obtain ⟨i0, hi, hz0, hz1, hz2⟩ := info_parts info_byte
  have HC := Lib.hid hc
  have HD := Lib.hid hd
  obtain ⟨Ac, capc, rfl, -⟩ := hc
  obtain ⟨Ad, capd, rfl, -⟩ := hd
  go_enter Try.func7, Try.ntmps7
  go_wp2_with fail
  refine (newCase_any _ lc w HC.out hcl).mono ?_
  rintro e w1 ⟨K, v, l0, rfl, hcase, hK, hk1⟩
  have HCA := Lib.hid hcase
  clear hcase
  go_wp2_with fail
  refine (int_any K 0 5 v l0 w1 HCA.out (by omega) (by omega)).mono ?_
  rintro e w2 ⟨m, hm, rfl, ⟨a2, hc2⟩, hkk2⟩
  have HC2 := Lib.hid hc2
  have hk2 : Kept Kno w w2 := kept_casek hk1 hkk2 hK
  clear hc2 hkk2 HCA
  go_wp2_with fail
  refine (cells_any K a2 m v l0 w2 HC2.out (by omega)).mono ?_
  rintro e w3 ⟨Ar, capr, xs, rfl, hrow, hxs, hall, ⟨a3, hc3⟩, hkk3⟩
  have hk3 : Kept Kno w w3 := kept_casek hk2 hkk3 hK
  have HR : Hid (RowIn w3 (.slice Ar xs.length capr) xs) := Lib.hid (hrow.row (fun x hx => (hall x hx).2))
  have hx12 : xs.length ≤ 12 := by omega
  have HALL := Lib.hid hall
  have HC3 := Lib.hid hc3
  clear hrow hxs hkk3 HC2 hall hm hc3
  go_wp2_with fail
  refine (refAppendRow_any _ _ [] xs w3 (bs_nil _) HR.out (by simp)).mono ?_
  rw [rowRes_of HALL.out hx12, List.nil_append]
  rintro e w4 ⟨A4, cap4, rfl, hown4, hkk4⟩
  have hk4 : Kept Kno w w4 := hk3.then0 hkk4
  simp only at hown4 ⊢
  have hrl := renc_len xs HALL.out hx12
  generalize renc xs = L0 at hown4 hrl ⊢
  have hc4 := HC3.out.kept0 hkk4
  have HC4 := Lib.hid hc4
  have hKne : (Value.slice A4 L0.length cap4).ownBlock ≠ some K := own_blk_ne hown4 hc4.blk (by decide)
  have HO4 := Lib.hid hown4
  clear hown4 hc4 hkk4 HC3 HR HALL
  go_wp2_with fail
  refine (bool_any K a3 2 v l0 w4 HC4.out (by omega) (by omega)).mono ?_
  rintro e w5 ⟨bb, rfl, -, hkk5⟩
  have hk5 : Kept Kno w w5 := kept_casek hk4 hkk5 hK
  have HO5 : Hid (OwnB w5 w.heap.size 5 (.slice A4 L0.length cap4) L0) := Lib.hid (own_rebase (own_kept HO4.out hkk5 (fun k hk e => by unfold Kone at e; subst e; exact hKne hk)) (fun k hk => by have h8 := (own_base HO4.out hk).1; have h9 := hk3.size; omega))
  clear HO4 hKne hkk5
  have hL0 : L0.length ≤ 1000 := hrl.2
  clear hrl
  cases bb with
  | true =>
    go_wp2_with fail
    refine (part_any _ l w5 (Rd.kept0 HD.out hk5) hdl).mono ?_
    rintro e w6 ⟨u, rfl, hu, rfl⟩
    have hp : (l.take 200).length ≤ 200 := by rw [List.length_take]; omega
    generalize l.take 200 = p at hu hp
    have HU := Lib.hid hu
    obtain ⟨Au, capu, rfl, -⟩ := hu
    have r2 : 0 + p.length ≤ maxLen := by simp only [maxLen]; omega
    have hs5 := hk5.size
    go_upto_region 5 with (at_builtin; refine wpList_append_rd _ rfl _ _ 22 rfl w.heap.size 5 i0 _ 1 1 Try.underlying22 hi hz0 hz1 hz2 rfl (by decide) (.slice none 0 0) 0 [] rfl (World.ownsRow_nil _ _ _ _) _ p.length (p.map bv) rfl HU.out (bvs_one p) r2 (by omega) hs5 ?_; intro A6 cap6 w6 hown6 hg6 hat6; simp only [Nat.zero_add, List.nil_append] at hown6 hat6 ⊢)
    have hk6 : Kept Kno w w6 := hk5.grown hg6 (fun k hk e => by cases e)
    have HO6 : Hid (OwnB w6 w.heap.size 5 (.slice A6 p.length cap6) p) := Lib.hid hown6
    clear hown6 hg6 hat6
    by_cases h0 : 0 < p.length
    · obtain ⟨g, rfl, hbg, hcp, hcell, hfr⟩ := own_head HO6.out h0
      obtain ⟨r1, r2, r3⟩ := rem_nat a p.length h0
      generalize a % p.length = q at r1 r2 r3
      obtain ⟨c, hc⟩ : ∃ c, p[q]? = some c := ⟨_, List.getElem?_eq_getElem r3⟩
      have hcc := hcell q c hc
      have hff := hfr q
      obtain ⟨c', hx⟩ := xor_u8 (c.toNat : Int) (b : Int)
      have HO7 := Lib.hid (own_put (i := q) HO6.out c')
      have hk7 : Kept Kno w (w6.setCell ⟨g, q, none⟩ (.int .u8 c'.toNat)) := hk6.setNew (p := ⟨g, q, none⟩) hbg _
      have hlen : (p.set q c').length = p.length := List.length_set
      have u1 : (0 : Int) < (p.length : Int) := by omega
      have u2 : (q : Int) < (p.length : Int) := by omega
      have u3 : (0 : Int) ≤ (q : Int) := by omega
      have u4 : ((p.length : Int) == 0) = false := by rw [beq_eq_false_iff_ne]; omega
      have HLEN := Lib.hid hlen
      clear hcell hfr hc hlen HO6
      go_upto_region 7 with (fail)
      have hlen := HLEN.out
      generalize (w6.setCell ⟨g, q, none⟩ (.int .u8 c'.toNat)) = w7 at HO7 hk7 ⊢
      generalize p.set q c' = L at HO7 hlen
      rw [← hlen]
      have hLL : L.length ≤ 1000000 := by omega
      clear hlen HLEN hcc hff hx r1 r2 u1 u2 u4 h0 r3
      go_wp2_with fail
      refine (rowF_any _ L 0 w7 (OwnB.bs HO7.out) (by omega)).mono ?_
      cases hr : rowAt L 0 with
      | error c =>
        have hres : rowRes2 L 0 = ([], 0, c) := by unfold rowRes2; rw [if_neg (by omega), show (0 : Int).toNat = 0 from rfl, hr]
        have hc0 := rowAt_err hr
        have hc1 : (c != 0) = true := by simpa using hc0
        rw [hres]
        rintro e w8 ⟨A8, cap8, rfl, -, hkk8⟩
        have hk8 := hk7.then0 hkk8
        simp only [List.length_nil]
        clear hres hc0 hr hkk8
        go_wp2_with fail
        refine (begun_any w8).mono ?_
        rintro e w9 ⟨rfl, hkk9⟩
        have hk9 := hk8.then0 hkk9
        go_wp2
        go_ret
        exact ⟨rfl, hk9⟩
      | ok y =>
        obtain ⟨ys, k⟩ := y
        have hres : rowRes2 L 0 = (ys, k, 0) := by unfold rowRes2; rw [if_neg (by omega), show (0 : Int).toNat = 0 from rfl, hr]; simp only [Nat.zero_add]
        obtain ⟨o1, o2, o3, o4, o5⟩ := row_one hr
        rw [hres]
        rintro e w8 ⟨A8, cap8, rfl, hown8, hkk8⟩
        have hk8 := hk7.then0 hkk8
        simp only at hown8 ⊢
        have HR8 := Lib.hid (OwnR.row hown8 o3)
        have hrr : rowRes [] ys = (renc ys, 0) := by unfold rowRes; rw [if_neg (by omega), o2, if_pos rfl, List.nil_append]
        have HRR := Lib.hid hrr
        have HT := Lib.hid o4
        have hb7 := OwnB.bs HO7.out
        have hcut := Bs.cut hb7 (m := k) o5
        rw [o4] at hcut
        have HCUT := Lib.hid hcut
        have hcc7 : L.length ≤ cap6 := by
          obtain ⟨A', cap', hv, h1, -⟩ := hb7
          injection hv with _ _ h3
          subst h3
          exact h1
        have t1 : (k : Int) ≤ (cap6 : Int) := by omega
        have t2 : (0 : Int) ≤ (k : Int) := by omega
        have t3 : k ≤ cap6 := by omega
        have t4 : (k : Int) ≤ (L.length : Int) := by omega
        clear hres hr hown8 o2 o3 o4 hrr hb7 hcut
        go_wp2_with fail
        refine (appendRow_any _ _ [] ys w8 (bs_nil _) HR8.out (by simp)).mono ?_
        rw [HRR.out]
        rintro e w9 ⟨A9, cap9, rfl, hown9, hkk9⟩
        have hk9 := hk8.then0 hkk9
        simp only at hown9 ⊢
        generalize renc ys = M at hown9 HCUT ⊢
        have HO9 := Lib.hid hown9
        clear hown9
        go_wp2_with fail
        refine (begun_any w9).mono ?_
        rintro e w10 ⟨rfl, hkk10⟩
        have hk10 := hk9.then0 hkk10
        have HA := Lib.hid (Rd.kept0 (OwnB.bs HO9.out) hkk10)
        have HB := Lib.hid (Rd.kept0 HCUT.out (hkk8.then0 (hkk9.then0 hkk10)))
        go_wp2_with fail
        refine (same_any _ _ M M w10 HA.out HB.out).mono ?_
        rw [decide_eq_true (Eq.refl M)]
        rintro e w11 ⟨rfl, rfl⟩
        go_wp2
        go_ret
        exact ⟨rfl, hk10⟩
    · obtain ⟨L, rfl⟩ : ∃ L, L = p := ⟨_, rfl⟩
      obtain ⟨w7, rfl⟩ : ∃ w7, w7 = w6 := ⟨_, rfl⟩
      have HO7 := Lib.hid HO6.out
      have hk7 := hk6
      have u1 : ¬ (0 : Int) < (L.length : Int) := by omega
      have hLL : L.length ≤ 1000000 := by omega
      clear HO6 hk6
      go_upto_region 7 with (fail)
      clear h0 u1
      go_wp2_with fail
      refine (rowF_any _ L 0 w7 (OwnB.bs HO7.out) (by omega)).mono ?_
      cases hr : rowAt L 0 with
      | error c =>
        have hres : rowRes2 L 0 = ([], 0, c) := by unfold rowRes2; rw [if_neg (by omega), show (0 : Int).toNat = 0 from rfl, hr]
        have hc0 := rowAt_err hr
        have hc1 : (c != 0) = true := by simpa using hc0
        rw [hres]
        rintro e w8 ⟨A8, cap8, rfl, -, hkk8⟩
        have hk8 := hk7.then0 hkk8
        simp only [List.length_nil]
        clear hres hc0 hr hkk8
        go_wp2_with fail
        refine (begun_any w8).mono ?_
        rintro e w9 ⟨rfl, hkk9⟩
        have hk9 := hk8.then0 hkk9
        go_wp2
        go_ret
        exact ⟨rfl, hk9⟩
      | ok y =>
        obtain ⟨ys, k⟩ := y
        have hres : rowRes2 L 0 = (ys, k, 0) := by unfold rowRes2; rw [if_neg (by omega), show (0 : Int).toNat = 0 from rfl, hr]; simp only [Nat.zero_add]
        obtain ⟨o1, o2, o3, o4, o5⟩ := row_one hr
        rw [hres]
        rintro e w8 ⟨A8, cap8, rfl, hown8, hkk8⟩
        have hk8 := hk7.then0 hkk8
        simp only at hown8 ⊢
        have HR8 := Lib.hid (OwnR.row hown8 o3)
        have hrr : rowRes [] ys = (renc ys, 0) := by unfold rowRes; rw [if_neg (by omega), o2, if_pos rfl, List.nil_append]
        have HRR := Lib.hid hrr
        have HT := Lib.hid o4
        have hb7 := OwnB.bs HO7.out
        have hcut := Bs.cut hb7 (m := k) o5
        rw [o4] at hcut
        have HCUT := Lib.hid hcut
        have hcc7 : L.length ≤ cap6 := by
          obtain ⟨A', cap', hv, h1, -⟩ := hb7
          injection hv with _ _ h3
          subst h3
          exact h1
        have t1 : (k : Int) ≤ (cap6 : Int) := by omega
        have t2 : (0 : Int) ≤ (k : Int) := by omega
        have t3 : k ≤ cap6 := by omega
        have t4 : (k : Int) ≤ (L.length : Int) := by omega
        clear hres hr hown8 o2 o3 o4 hrr hb7 hcut
        go_wp2_with fail
        refine (appendRow_any _ _ [] ys w8 (bs_nil _) HR8.out (by simp)).mono ?_
        rw [HRR.out]
        rintro e w9 ⟨A9, cap9, rfl, hown9, hkk9⟩
        have hk9 := hk8.then0 hkk9
        simp only at hown9 ⊢
        generalize renc ys = M at hown9 HCUT ⊢
        have HO9 := Lib.hid hown9
        clear hown9
        go_wp2_with fail
        refine (begun_any w9).mono ?_
        rintro e w10 ⟨rfl, hkk10⟩
        have hk10 := hk9.then0 hkk10
        have HA := Lib.hid (Rd.kept0 (OwnB.bs HO9.out) hkk10)
        have HB := Lib.hid (Rd.kept0 HCUT.out (hkk8.then0 (hkk9.then0 hkk10)))
        go_wp2_with fail
        refine (same_any _ _ M M w10 HA.out HB.out).mono ?_
        rw [decide_eq_true (Eq.refl M)]
        rintro e w11 ⟨rfl, rfl⟩
        go_wp2
        go_ret
        exact ⟨rfl, hk10⟩
  | false =>
    obtain ⟨p, rfl⟩ : ∃ p, p = L0 := ⟨_, rfl⟩
    obtain ⟨w6, rfl⟩ : ∃ w6, w6 = w5 := ⟨_, rfl⟩
    obtain ⟨A6, rfl⟩ : ∃ A6, A6 = A4 := ⟨_, rfl⟩
    obtain ⟨cap6, rfl⟩ : ∃ cap6, cap6 = cap4 := ⟨_, rfl⟩
    have hk6 := hk5
    have hp := hL0
    have HO6 := Lib.hid HO5.out
    clear HO5 hk5 hL0
    go_upto_region 5 with (fail)
    by_cases h0 : 0 < p.length
    · obtain ⟨g, rfl, hbg, hcp, hcell, hfr⟩ := own_head HO6.out h0
      obtain ⟨r1, r2, r3⟩ := rem_nat a p.length h0
      generalize a % p.length = q at r1 r2 r3
      obtain ⟨c, hc⟩ : ∃ c, p[q]? = some c := ⟨_, List.getElem?_eq_getElem r3⟩
      have hcc := hcell q c hc
      have hff := hfr q
      obtain ⟨c', hx⟩ := xor_u8 (c.toNat : Int) (b : Int)
      have HO7 := Lib.hid (own_put (i := q) HO6.out c')
      have hk7 : Kept Kno w (w6.setCell ⟨g, q, none⟩ (.int .u8 c'.toNat)) := hk6.setNew (p := ⟨g, q, none⟩) hbg _
      have hlen : (p.set q c').length = p.length := List.length_set
      have u1 : (0 : Int) < (p.length : Int) := by omega
      have u2 : (q : Int) < (p.length : Int) := by omega
      have u3 : (0 : Int) ≤ (q : Int) := by omega
      have u4 : ((p.length : Int) == 0) = false := by rw [beq_eq_false_iff_ne]; omega
      have HLEN := Lib.hid hlen
      clear hcell hfr hc hlen HO6
      go_upto_region 7 with (fail)
      have hlen := HLEN.out
      generalize (w6.setCell ⟨g, q, none⟩ (.int .u8 c'.toNat)) = w7 at HO7 hk7 ⊢
      generalize p.set q c' = L at HO7 hlen
      rw [← hlen]
      have hLL : L.length ≤ 1000000 := by omega
      clear hlen HLEN hcc hff hx r1 r2 u1 u2 u4 h0 r3
      go_wp2_with fail
      refine (rowF_any _ L 0 w7 (OwnB.bs HO7.out) (by omega)).mono ?_
      cases hr : rowAt L 0 with
      | error c =>
        have hres : rowRes2 L 0 = ([], 0, c) := by unfold rowRes2; rw [if_neg (by omega), show (0 : Int).toNat = 0 from rfl, hr]
        have hc0 := rowAt_err hr
        have hc1 : (c != 0) = true := by simpa using hc0
        rw [hres]
        rintro e w8 ⟨A8, cap8, rfl, -, hkk8⟩
        have hk8 := hk7.then0 hkk8
        simp only [List.length_nil]
        clear hres hc0 hr hkk8
        go_wp2_with fail
        refine (begun_any w8).mono ?_
        rintro e w9 ⟨rfl, hkk9⟩
        have hk9 := hk8.then0 hkk9
        go_wp2
        go_ret
        exact ⟨rfl, hk9⟩
      | ok y =>
        obtain ⟨ys, k⟩ := y
        have hres : rowRes2 L 0 = (ys, k, 0) := by unfold rowRes2; rw [if_neg (by omega), show (0 : Int).toNat = 0 from rfl, hr]; simp only [Nat.zero_add]
        obtain ⟨o1, o2, o3, o4, o5⟩ := row_one hr
        rw [hres]
        rintro e w8 ⟨A8, cap8, rfl, hown8, hkk8⟩
        have hk8 := hk7.then0 hkk8
        simp only at hown8 ⊢
        have HR8 := Lib.hid (OwnR.row hown8 o3)
        have hrr : rowRes [] ys = (renc ys, 0) := by unfold rowRes; rw [if_neg (by omega), o2, if_pos rfl, List.nil_append]
        have HRR := Lib.hid hrr
        have HT := Lib.hid o4
        have hb7 := OwnB.bs HO7.out
        have hcut := Bs.cut hb7 (m := k) o5
        rw [o4] at hcut
        have HCUT := Lib.hid hcut
        have hcc7 : L.length ≤ cap6 := by
          obtain ⟨A', cap', hv, h1, -⟩ := hb7
          injection hv with _ _ h3
          subst h3
          exact h1
        have t1 : (k : Int) ≤ (cap6 : Int) := by omega
        have t2 : (0 : Int) ≤ (k : Int) := by omega
        have t3 : k ≤ cap6 := by omega
        have t4 : (k : Int) ≤ (L.length : Int) := by omega
        clear hres hr hown8 o2 o3 o4 hrr hb7 hcut
        go_wp2_with fail
        refine (appendRow_any _ _ [] ys w8 (bs_nil _) HR8.out (by simp)).mono ?_
        rw [HRR.out]
        rintro e w9 ⟨A9, cap9, rfl, hown9, hkk9⟩
        have hk9 := hk8.then0 hkk9
        simp only at hown9 ⊢
        generalize renc ys = M at hown9 HCUT ⊢
        have HO9 := Lib.hid hown9
        clear hown9
        go_wp2_with fail
        refine (begun_any w9).mono ?_
        rintro e w10 ⟨rfl, hkk10⟩
        have hk10 := hk9.then0 hkk10
        have HA := Lib.hid (Rd.kept0 (OwnB.bs HO9.out) hkk10)
        have HB := Lib.hid (Rd.kept0 HCUT.out (hkk8.then0 (hkk9.then0 hkk10)))
        go_wp2_with fail
        refine (same_any _ _ M M w10 HA.out HB.out).mono ?_
        rw [decide_eq_true (Eq.refl M)]
        rintro e w11 ⟨rfl, rfl⟩
        go_wp2
        go_ret
        exact ⟨rfl, hk10⟩
    · obtain ⟨L, rfl⟩ : ∃ L, L = p := ⟨_, rfl⟩
      obtain ⟨w7, rfl⟩ : ∃ w7, w7 = w6 := ⟨_, rfl⟩
      have HO7 := Lib.hid HO6.out
      have hk7 := hk6
      have u1 : ¬ (0 : Int) < (L.length : Int) := by omega
      have hLL : L.length ≤ 1000000 := by omega
      clear HO6 hk6
      go_upto_region 7 with (fail)
      clear h0 u1
      go_wp2_with fail
      refine (rowF_any _ L 0 w7 (OwnB.bs HO7.out) (by omega)).mono ?_
      cases hr : rowAt L 0 with
      | error c =>
        have hres : rowRes2 L 0 = ([], 0, c) := by unfold rowRes2; rw [if_neg (by omega), show (0 : Int).toNat = 0 from rfl, hr]
        have hc0 := rowAt_err hr
        have hc1 : (c != 0) = true := by simpa using hc0
        rw [hres]
        rintro e w8 ⟨A8, cap8, rfl, -, hkk8⟩
        have hk8 := hk7.then0 hkk8
        simp only [List.length_nil]
        clear hres hc0 hr hkk8
        go_wp2_with fail
        refine (begun_any w8).mono ?_
        rintro e w9 ⟨rfl, hkk9⟩
        have hk9 := hk8.then0 hkk9
        go_wp2
        go_ret
        exact ⟨rfl, hk9⟩
      | ok y =>
        obtain ⟨ys, k⟩ := y
        have hres : rowRes2 L 0 = (ys, k, 0) := by unfold rowRes2; rw [if_neg (by omega), show (0 : Int).toNat = 0 from rfl, hr]; simp only [Nat.zero_add]
        obtain ⟨o1, o2, o3, o4, o5⟩ := row_one hr
        rw [hres]
        rintro e w8 ⟨A8, cap8, rfl, hown8, hkk8⟩
        have hk8 := hk7.then0 hkk8
        simp only at hown8 ⊢
        have HR8 := Lib.hid (OwnR.row hown8 o3)
        have hrr : rowRes [] ys = (renc ys, 0) := by unfold rowRes; rw [if_neg (by omega), o2, if_pos rfl, List.nil_append]
        have HRR := Lib.hid hrr
        have HT := Lib.hid o4
        have hb7 := OwnB.bs HO7.out
        have hcut := Bs.cut hb7 (m := k) o5
        rw [o4] at hcut
        have HCUT := Lib.hid hcut
        have hcc7 : L.length ≤ cap6 := by
          obtain ⟨A', cap', hv, h1, -⟩ := hb7
          injection hv with _ _ h3
          subst h3
          exact h1
        have t1 : (k : Int) ≤ (cap6 : Int) := by omega
        have t2 : (0 : Int) ≤ (k : Int) := by omega
        have t3 : k ≤ cap6 := by omega
        have t4 : (k : Int) ≤ (L.length : Int) := by omega
        clear hres hr hown8 o2 o3 o4 hrr hb7 hcut
        go_wp2_with fail
        refine (appendRow_any _ _ [] ys w8 (bs_nil _) HR8.out (by simp)).mono ?_
        rw [HRR.out]
        rintro e w9 ⟨A9, cap9, rfl, hown9, hkk9⟩
        have hk9 := hk8.then0 hkk9
        simp only at hown9 ⊢
        generalize renc ys = M at hown9 HCUT ⊢
        have HO9 := Lib.hid hown9
        clear hown9
        go_wp2_with fail
        refine (begun_any w9).mono ?_
        rintro e w10 ⟨rfl, hkk10⟩
        have hk10 := hk9.then0 hkk10
        have HA := Lib.hid (Rd.kept0 (OwnB.bs HO9.out) hkk10)
        have HB := Lib.hid (Rd.kept0 HCUT.out (hkk8.then0 (hkk9.then0 hkk10)))
        go_wp2_with fail
        refine (same_any _ _ M M w10 HA.out HB.out).mono ?_
        rw [decide_eq_true (Eq.refl M)]
        rintro e w11 ⟨rfl, rfl⟩
        go_wp2
        go_ret
        exact ⟨rfl, hk10⟩

theorem one_final (cv : Value) (lc : List UInt8) (dv : Value) (l : List UInt8) (a b : Int) (w : World) (hc : Bs w cv lc ∧ lc.length ≤ maxLen) (hd : Bs w dv l ∧ l.length ≤ maxLen) (ha : (Lit.int .u8 a).wf = true) (hb : (Lit.int .u8 b).wf = true) :
    Calls Try.prog 7 #[cv, dv, .int .u8 a, .int .u8 b] w (RetNew (.bool true) w) := by
  have hx : 0 ≤ a ∧ a ≤ 255 := by simpa [Lit.wf, IntKind.min, IntKind.max, IntKind.signed, IntKind.bits] using ha
  have hy : 0 ≤ b ∧ b ≤ 255 := by simpa [Lit.wf, IntKind.min, IntKind.max, IntKind.signed, IntKind.bits] using hb
  obtain ⟨k, rfl⟩ : ∃ k : Nat, a = (k : Int) := ⟨a.toNat, by omega⟩
  obtain ⟨j, rfl⟩ : ∃ j : Nat, b = (j : Int) := ⟨b.toNat, by omega⟩
  exact one_walk cv dv lc l k j w hc.1 hc.2 hd.1 hd.2 (by omega) (by omega)

end Go.Proofs.Ytdpbpmokmlnleaa
