/-
  CodecFresh: the walk.
-/
import Derived.Test.YtdpbpmokmlnleaaCodecJ
import Derived.Test.YtdpbpmokmlnleaaCase3
import Derived.Test.YtdpbpmokmlnleaaBytesIn
namespace Go.Proofs.Ytdpbpmokmlnleaa
open Go.RowKit
set_option linter.unusedVariables false

def dots : ByteArray := ⟨([46, 46, 46, 46, 46, 46, 46, 46, 46, 46, 46, 46, 46, 46, 46, 46, 46, 46, 46, 46, 46, 46, 46, 46, 46, 46, 46, 46, 46, 46, 46, 46, 46, 46, 46, 46, 46, 46, 46, 46].append [46, 46, 46, 46, 46, 46, 46, 46, 46, 46, 46, 46, 46, 46, 46, 46, 46, 46, 46, 46, 46, 46, 46, 46, 46, 46, 46, 46, 46, 46, 46, 46, 46, 46, 46, 46, 46, 46, 46, 46]).toArray⟩
theorem dots_size : dots.size = 80 := by kernel_rfl
def xyz : ByteArray := ⟨#[120, 121, 122]⟩
theorem xyz_size : xyz.size = 3 := by kernel_rfl

theorem kept_case {w w1 w2 : World} {K : Nat} (h : Kept Kno w w1) (h2 : Kept (Kone K) w1 w2) (hK : w.heap.size ≤ K) : Kept Kno w w2 :=
  h.trans h2 (fun k hk e => by unfold Kone at e; omega)

set_option maxRecDepth 100000 in
set_option maxHeartbeats 4000000 in
theorem fresh_walk (cv dv : Value) (lc l : List UInt8) (n : Nat) (w : World) (hc : Bs w cv lc) (hcl : lc.length ≤ maxLen) (hd : Bs w dv l) (hdl : l.length ≤ maxLen) (hn : n < 18446744073709551616) :
    Calls Try.prog 4 #[cv, dv, .int .u64 n] w (RetNew (.bool true) w) := by
  obtain ⟨i0, hi, hz0, hz1, hz2⟩ := info_parts info_byte
  have HC := Lib.hid hc
  have HD := Lib.hid hd
  have HN := Lib.hid hn
  obtain ⟨Ac, capc, rfl, -⟩ := hc
  obtain ⟨Ad, capd, rfl, -⟩ := hd
  clear hn
  go_enter Try.func4, Try.ntmps4
  go_wp2_with fail
  refine (newCase_any _ lc w HC.out hcl).mono ?_
  rintro e w1 ⟨K, v, l0, rfl, hcase, hK, hk1⟩
  have HCA := Lib.hid hcase
  clear hcase
  go_wp2_with fail
  refine (int_any K 0 3 v l0 w1 HCA.out (by omega) (by omega)).mono ?_
  rintro e w2 ⟨m, hm, rfl, ⟨a2, hc2⟩, hkk2⟩
  have HC2 := Lib.hid hc2
  have hk2 : Kept Kno w w2 := kept_case hk1 hkk2 hK
  clear hc2 hkk2 HCA
  go_wp2_with fail
  have e1 : (1 : Int) + (m : Int) = ((1 + m : Nat) : Int) := by omega
  rw [e1]
  clear e1
  refine (cells_any K a2 (1 + m) v l0 w2 HC2.out (by omega)).mono ?_
  rintro e w3 ⟨Ar, capr, xs, rfl, hrow, hxs, hall, -, hkk3⟩
  have hk3 : Kept Kno w w3 := kept_case hk2 hkk3 hK
  have HR : Hid (RowIn w3 (.slice Ar xs.length capr) xs) := Lib.hid (hrow.row (fun x hx => (hall x hx).2))
  have hx3 : xs.length ≤ 3 := by omega
  have hx1 : 1 ≤ xs.length := by omega
  clear hrow hxs hkk3 HC2 hall hm
  go_wp2_with fail
  refine (part_any _ l w3 (Rd.kept0 HD.out hk3) hdl).mono ?_
  rintro e w4 ⟨u, rfl, hu, rfl⟩
  have hp : (l.take 200).length ≤ 200 := by rw [List.length_take]; omega
  generalize l.take 200 = p at hu hp
  have HU := Lib.hid hu
  obtain ⟨Au, capu, rfl, -⟩ := hu
  have r2 : 0 + p.length ≤ maxLen := by simp only [maxLen]; omega
  have r3 : p.length + dots.size ≤ maxLen := by rw [dots_size]; simp only [maxLen]; omega
  have r4 : p.length + dots.size ≤ 140737488355328 := by rw [dots_size]; omega
  go_upto_region 4 with (first
    | (at_builtin; refine wpList_append_rd _ rfl _ _ 22 rfl w3.heap.size 5 i0 _ 1 1 Try.underlying22 hi hz0 hz1 hz2 rfl (by decide) (.slice none 0 0) 0 [] rfl (World.ownsRow_nil _ _ _ _) _ p.length (p.map bv) rfl HU.out (bvs_one p) r2 (by omega) (Nat.le_refl _) ?_; intro A1 cap1 w4 hown1 hg1 hat1; simp only [Nat.zero_add, List.nil_append] at hown1 hat1 ⊢; have HO1 := Lib.hid hown1; have hk4 : Kept Kno w3 w4 := (Kept.refl _ _).grown hg1 (fun k hk e => by cases e); have hb4 := hk4.size; clear hown1 hg1 hat1)
    | (at_builtin; refine Lib.wpList_append_own_string _ rfl _ _ 22 9 rfl w3.heap.size 5 i0 Try.underlying22 Try.underlying9 hi hz0 hz1 hz2 (.slice A1 p.length cap1) p.length (p.map bv) rfl HO1.out dots rfl r3 r4 hb4 ?_; intro v2 w5 hown2 hg2 hat2))
  obtain ⟨A2, cap2, hv2⟩ := own_form hown2
  subst hv2
  rw [dots_size] at hown2 ⊢
  have e : (p ++ sbytes dots).length = p.length + 80 := by rw [List.length_append, sbytes_length, dots_size]
  have hob : OwnB w5 w3.heap.size 5 (.slice A2 (p ++ sbytes dots).length cap2) (p ++ sbytes dots) := by
    unfold OwnB
    rw [e]
    have h9 := hown2
    rw [strCells_bytes, ← List.map_append] at h9
    exact h9
  have hk5 : Kept Kno w w5 := hk3.then0 (hk4.grown hg2 (fun k hk h => absurd (own_base HO1.out h).1 (by omega)))
  have hrow5 : RowIn w5 (.slice Ar xs.length capr) xs := HR.out.kept0 (hk4.grown hg2 (fun k hk h => absurd (own_base HO1.out h).1 (by omega)))
  have hbs : Bs w5 (.slice A2 (p ++ sbytes dots).length cap2) (p ++ sbytes dots) := OwnB.bs hob
  have hcut : Bs w5 (.slice A2 p.length cap2) p := by
    have h9 := Bs.cut hbs (m := p.length) (by rw [e]; omega)
    rwa [List.take_left'] at h9
    rfl
  have hcc : p.length + 80 ≤ cap2 := by
    obtain ⟨A', cap', hv, h1, -⟩ := hbs
    injection hv with _ _ h3
    subst h3
    rw [← e]; exact h1
  rw [e] at hbs
  have HB : Hid (∀ w', Kept Kno w5 w' → (convert 22 9 (.slice A2 (p.length + 80) cap2)).run Try.prog w' = .ok (.string ⟨(p ++ sbytes dots).toArray⟩) w') := Lib.hid (fun w' hk => run_string_bs (P := Try.prog) 22 9 5 (hbs.kept0 hk) Try.underlying22 Try.underlying5 Try.underlying9)
  generalize p ++ sbytes dots = L at HB
  have HCUT : Hid (∀ w', Kept Kno w5 w' → Bs w' (.slice A2 p.length cap2) p) := Lib.hid (fun w' hk => hcut.kept0 hk)
  have HR5 := Lib.hid hrow5
  have q3 : p.length ≤ cap2 := by omega
  have q4 : (p.length : Int) ≤ (cap2 : Int) := by omega
  have q5 : (0 : Int) ≤ (p.length : Int) := by omega
  clear e hob hcut hbs hrow5 hown2 hg2 hat2 hcc r2 r3 r4 HO1 HU HR HC HD hk4 hb4 hk1 hk2 hk3
  have t1 := HB.out w5 (Kept.refl _ _)
  go_wp2_with fail
  refine (appendUint_any _ p n w5 (HCUT.out w5 (Kept.refl _ _)) HN.out (by omega)).mono ?_
  rintro e w6 ⟨A6, cap6, rfl, -, hkk6⟩
  clear t1
  go_wp2_with fail
  have b1 : -9223372036854775808 ≤ wrap64 (n : Int) ∧ wrap64 (n : Int) ≤ 9223372036854775807 := by unfold wrap64; omega
  refine (appendInt_any _ p _ w6 (HCUT.out w6 hkk6) b1.1 b1.2 (by omega)).mono ?_
  rintro e w7 ⟨A7, cap7, rfl, -, hkk7⟩
  have hk7 : Kept Kno w5 w7 := hkk6.then0 hkk7
  generalize wrap64 (n : Int) = nn
  clear b1 hkk6 hkk7
  go_wp2_with fail
  refine (appendText_any _ p xyz w7 (HCUT.out w7 hk7) (by rw [xyz_size]; omega)).mono ?_
  rintro e w8 ⟨A8, cap8, rfl, -, hkk8⟩
  have hk8 : Kept Kno w5 w8 := hk7.then0 hkk8
  generalize (p ++ (leb xyz.size ++ sbytes xyz)).length = k8
  clear hk7 hkk8
  obtain ⟨A', cap', hv', hlc, hlm, hcell, hoks⟩ := HR5.out.kept0 hk8
  injection hv' with e1 e2 e3
  subst e1 e3
  obtain ⟨g, o, rfl, hc⟩ := hcell (by omega)
  obtain ⟨x, hx⟩ : ∃ x, xs[0]? = some x := ⟨xs[0], List.getElem?_eq_getElem hx1⟩
  obtain ⟨c0, c1, c2⟩ := hc 0 x hx
  have hok := hoks x (List.mem_of_getElem? hx)
  have HOK := Lib.hid hok
  obtain ⟨kind, n0, s⟩ := x
  simp only [Nat.zero_mul, Nat.add_zero] at c0 c1 c2
  have hk0 : (0 : Int) < (xs.length : Int) := by omega
  have hk00 : 0 < xs.length := by omega
  have HLM := Lib.hid hlm
  clear hcell hoks hc hx e2 hok hlm
  go_upto_region 9 with (fail)
  have HAV : Hid (∀ w', Kept Kno w5 w' → Calls Try.prog 23 #[.slice A2 p.length cap2, .agg #[.int .i64 kind, .int .i64 n0, .string s]] w' (RetE (valRes p ⟨kind, n0, s⟩) w')) := Lib.hid (fun w' hk => appendValue_any _ p ⟨kind, n0, s⟩ w' (HCUT.out w' hk) HOK.out (by omega))
  go_region_held3 (fun w' => w'.cell? ⟨g, o, none⟩ = some (.int .i64 kind) ∧ w'.cell? ⟨g, o + 1, none⟩ = some (.int .i64 n0) ∧ w'.cell? ⟨g, o + 1 + 1, none⟩ = some (.string s)) (first | (exact ⟨r0, r1, r2⟩) | (exact ⟨c0, c1, c2⟩) | go_keep)
    (first | (go_at_call 23; refine (HAV.out _ hk8.drew).mono ?_; rintro e w9 ⟨A9, cap9, rfl, -, hkk9⟩; have hk9 : Kept Kno w5 w9 := (hk8.drew).then0 hkk9; have r0 := hkk9.cell_some c0 (fun h => h); have r1 := hkk9.cell_some c1 (fun h => h); have r2 := hkk9.cell_some c2 (fun h => h); clear hkk9))
  clear r0 r1 r2 c0 c1 c2
  go_wp2_with fail
  refine (appendRow_any _ _ p xs w9 (HCUT.out w9 hk9) (HR5.out.kept0 hk9) (by omega)).mono ?_
  rintro e w10 ⟨A10, cap10, rfl, -, hkk10⟩
  have hk10 : Kept Kno w5 w10 := hk9.then0 hkk10
  generalize (rowRes p xs).1.length = k10
  generalize (rowRes p xs).2 = f10
  clear hkk10
  go_wp2_with fail
  refine (begun_any w10).mono ?_
  rintro e w11 ⟨rfl, hkk11⟩
  have hk11 : Kept Kno w5 w11 := hk10.then0 hkk11
  have t2 := HB.out w11 hk11
  go_wp2
  go_ret
  exact ⟨rfl, hk5.then0 hk11⟩

theorem fresh_final (cv : Value) (lc : List UInt8) (dv : Value) (l : List UInt8) (n : Int) (w : World) (hc : Bs w cv lc ∧ lc.length ≤ maxLen) (hd : Bs w dv l ∧ l.length ≤ maxLen) (hn : (Lit.int .u64 n).wf = true) :
    Calls Try.prog 4 #[cv, dv, .int .u64 n] w (RetNew (.bool true) w) := by
  have hx : 0 ≤ n ∧ n ≤ 18446744073709551615 := by simpa [Lit.wf, IntKind.min, IntKind.max, IntKind.signed, IntKind.bits] using hn
  obtain ⟨k, rfl⟩ : ∃ k : Nat, n = (k : Int) := ⟨n.toNat, by omega⟩
  exact fresh_walk cv dv lc l k w hc.1 hc.2 hd.1 hd.2 (by omega)

end Go.Proofs.Ytdpbpmokmlnleaa
