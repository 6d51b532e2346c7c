/-
  Journal: lists of records; clone, note, size, Len, Records.
-/
import Derived.Test.YteoodgcpkgfomaaJourG
import Derived.Test.YteoodgcpkgfomaaQuiet
namespace Go.Proofs.Yteoodgcpkgfomaa
open Go.RowKit
set_option linter.unusedVariables false

/-- A slice of slices that reads as records, wherever they lie. -/
def LsR (w : World) (v : Value) (us : List Value) (rs : List (List UInt8)) : Prop :=
  Rd w 1 v rs.length us ∧ ∀ (i : Nat) (x : Value) (b : List UInt8), us[i]? = some x → rs[i]? = some b → Bs w x b
/-- A list of records of the caller's own: each in a row of its own. -/
def Ls (w : World) (base : Nat) (v : Value) (vs : List Value) (ls : List (List UInt8)) : Prop :=
  w.ownsRow base 30 1 v ls.length vs ∧ ∀ (i : Nat) (x : Value) (l : List UInt8), vs[i]? = some x → ls[i]? = some l → OwnB w base 5 x l

section
variable {w w' : World} {base : Nat} {v : Value} {us : List Value} {rs : List (List UInt8)}
theorem LsR.len (h : LsR w v us rs) : us.length = rs.length := by obtain ⟨A, cap, _, _, h, _⟩ := h.1; omega
theorem LsR.kept0 (h : LsR w v us rs) (hk : Kept Kno w w') : LsR w' v us rs := ⟨h.1.kept0 hk, fun i x b hx hb => Rd.kept0 (h.2 i x b hx hb) hk⟩
theorem LsR.kept {S : Nat → Prop} (h : LsR w v us rs) (hk : Kept S w w') (h1 : ∀ k, v.ownBlock = some k → ¬ S k) (h2 : ∀ u ∈ us, ∀ k, u.ownBlock = some k → ¬ S k) : LsR w' v us rs :=
  ⟨h.1.kept hk h1, fun i x b hx hb => Rd.kept (h.2 i x b hx hb) hk (h2 x (List.mem_of_getElem? hx))⟩
theorem LsR.form (h : LsR w v us rs) : ∃ A cap, v = .slice A rs.length cap ∧ rs.length ≤ cap := by obtain ⟨A, cap, h1, h2, _⟩ := h.1; exact ⟨A, cap, h1, h2⟩
theorem LsR.at (h : LsR w v us rs) {i : Nat} (hi : i < rs.length) : ∃ g o cap x, v = .slice (some ⟨g, o, none⟩) rs.length cap ∧ us[i]? = some x ∧ w.cell? ⟨g, o + i, none⟩ = some x := by
  have hl := h.len
  obtain ⟨A, cap, rfl, h1, h2, h3, h4⟩ := h.1
  rcases A with _ | ad
  · have := (h3 rfl).1; omega
  · have hx : us[i]? = some (us[i]'(by omega)) := List.getElem?_eq_getElem (by omega)
    have hc := h4 ad rfl i _ hx
    have hc0 := h4 ad rfl 0 _ (List.getElem?_eq_getElem (by omega))
    have hs := World.cell?_spot hc0
    obtain ⟨g, o, spot⟩ := ad
    have hs' : spot = none := by simpa [Addr.add] using hs
    subst hs'
    rw [add_lit0] at hc
    exact ⟨g, o, cap, _, rfl, hx, hc⟩
theorem Ls.len (h : Ls w base v us rs) : us.length = rs.length := by have := h.1.1; omega
theorem Ls.r (h : Ls w base v us rs) : LsR w v us rs := ⟨Rd.of_own h.1, fun i x b hx hb => (h.2 i x b hx hb).bs⟩
theorem RR.r (h : RR w base v us rs) : LsR w v us rs := ⟨Rd.of_own h.row, fun i x b hx hb => (h.recs i x b hx hb).1⟩
theorem Ls.rr (h : Ls w base v us rs) : RR w base v us rs := ⟨h.1, fun i x b hx hb => RecIn.own (h.2 i x b hx hb)⟩
theorem Ls.kept0 (h : Ls w base v us rs) (hk : Kept Kno w w') : Ls w' base v us rs := ⟨own_kept h.1 hk (fun _ _ h => h), fun i x b hx hb => own_kept (h.2 i x b hx hb) hk (fun _ _ h => h)⟩
theorem Ls.rebase {base' : Nat} (h : Ls w base v us rs) (hb : base' ≤ base) : Ls w base' v us rs :=
  ⟨own_rebase h.1 (fun k e => Nat.le_trans hb (own_base h.1 e).1), fun i x b hx hb' => own_rebase (h.2 i x b hx hb') (fun k e => Nat.le_trans hb (own_base (h.2 i x b hx hb') e).1)⟩
theorem ls_append {w1 w2 : World} {v2 x : Value} {vs : List Value} {ls : List (List UInt8)} {l : List UInt8} (h : Ls w1 base v vs ls) (hx : OwnB w1 base 5 x l)
    (hown : w2.ownsRow base 30 1 v2 (ls.length + 1) (vs ++ [x])) (hg : w1.grownBy w2 v.ownBlock) : Ls w2 base v2 (vs ++ [x]) (ls ++ [l]) := by
  have hk : Kept (Kown v) w1 w2 := (Kept.refl _ _).grown hg (fun k _ e => e)
  have hne : ∀ {u : Value} {m : List UInt8}, OwnB w1 base 5 u m → ∀ k, u.ownBlock = some k → ¬ v.ownBlock = some k := fun hu k h1 h2 => absurd ((own_bt hu h1).one (own_bt h.1 h2)) (by decide)
  have hl := h.len
  refine ⟨by rw [List.length_append]; exact hown, fun i y m hy hm => ?_⟩
  by_cases hi : i < vs.length
  · rw [List.getElem?_append_left hi] at hy
    rw [List.getElem?_append_left (by omega)] at hm
    have ho := h.2 i y m hy hm
    exact own_kept ho hk (hne ho)
  · rw [List.getElem?_append_right (by omega)] at hy
    rw [List.getElem?_append_right (by omega)] at hm
    have h0 : i - vs.length = 0 := by
      rcases Nat.eq_zero_or_pos (i - vs.length) with h0 | h0
      · exact h0
      · rw [List.getElem?_eq_none (by simp; omega)] at hy; cases hy
    rw [h0] at hy
    rw [show i - ls.length = 0 by omega] at hm
    simp at hy hm
    subst hy hm
    exact own_kept hx hk (hne hx)
end

def RetLs (ls : List (List UInt8)) (w : World) (e : Ending) (w' : World) : Prop := ∃ A cap vs, e = .returned (.slice A ls.length cap) ∧ Ls w' w.heap.size (.slice A ls.length cap) vs ls ∧ Kept Kno w w'
def CloneRel (rs : List (List UInt8)) (w : World) (l i : Value) (wr : World) : Prop :=
  ∃ (k A cap : _) (vs : List Value), k ≤ rs.length ∧ i = .int .i64 (k : Nat) ∧ l = .slice A k cap ∧ Ls wr w.heap.size (.slice A k cap) vs (rs.take k) ∧ Kept Kno w wr

set_option maxRecDepth 100000 in
set_option maxHeartbeats 1000000 in
theorem clone_any (v : Value) (us : List Value) (rs : List (List UInt8)) (w : World) (h : LsR w v us rs) (hn : rs.length ≤ 100000000) (hm : ∀ b ∈ rs, b.length ≤ 140737488355328) :
    Calls Try.prog 65 #[v] w (RetLs rs w) := by
  obtain ⟨i0, hi, hz0, hz1, hz2⟩ := info_parts info_byte
  obtain ⟨j0, hj, hy0, hy1, hy2⟩ := info_parts info_recs
  have H := Lib.hid h
  have HM := Lib.hid hm
  obtain ⟨A, cap, rfl, hc⟩ := h.form
  clear h hm
  go_enter Try.func65, Try.ntmps65
  go_wp2_with fail
  go_loopw [3, 8] (fun l i wr => CloneRel rs w l i wr) (fun _ i _ => rs.length - (intOf i).toNat)
  case atStart => exact ⟨0, none, 0, [], by omega, rfl, rfl, ⟨World.ownsRow_nil _ _ _ _, fun i x b hx => by simp at hx⟩, Kept.refl _ _⟩
  case round =>
    obtain ⟨k, A1, cap1, vs, hk, rfl, rfl, hls, hkk⟩ := hrel
    by_cases hlt : k < rs.length
    · have hR := H.out.kept0 hkk
      obtain ⟨g, o, c2, x, hv, hx, hcell⟩ := hR.at hlt
      injection hv with e1 e2 e3
      subst e1 e3
      have hb : rs[k]? = some rs[k] := List.getElem?_eq_getElem hlt
      have hml := HM.out rs[k] (List.getElem_mem hlt)
      generalize hbb : rs[k] = b at hb hml
      have hbs := hR.2 k x b hx hb
      have HBS := Lib.hid hbs
      obtain ⟨Ax, cx, rfl, -⟩ := hbs
      have HLS := Lib.hid hls
      have HKK := Lib.hid hkk
      have HBB := Lib.hid hb
      have hk0 : (0 : Int) ≤ (k : Int) := by omega
      have hk1 : (k : Int) < (rs.length : Int) := by omega
      have hml2 : b.length ≤ maxLen := by simp only [maxLen]; omega
      have hwr : w.heap.size ≤ wr.heap.size := hkk.size
      clear hR hx hb hbb hls hkk e2
      have m1 : 0 + b.length ≤ maxLen := by rw [Nat.zero_add]; exact hml2
      have m2 : k + 1 ≤ maxLen := by simp only [maxLen]; omega
      have htl : (rs.take k).length = k := by rw [List.length_take]; omega
      have HTL := Lib.hid htl
      clear htl
      go_wp2_with (at_builtin; first
        | (refine wpList_append_rd _ rfl _ _ 30 rfl w.heap.size 5 i0 _ 1 1 Try.underlying30 hi hz0 hz1 hz2 rfl (by decide) (.slice none 0 0) 0 [] rfl (World.ownsRow_nil _ _ _ _) _ b.length (b.map bv) rfl HBS.out (bvs_one b) m1 (by omega) hwr ?_
           intro A2 cap2 w2 hown2 hg2 hat2
           have hk2 : Kept Kno wr w2 := (Kept.refl _ _).grown hg2 (fun k _ e => by cases e)
           have HO2 : Hid (OwnB w2 w.heap.size 5 (.slice A2 (0 + b.length) cap2) b) := Lib.hid (by have h9 := hown2; rw [Nat.zero_add, List.nil_append] at h9; rw [Nat.zero_add]; exact h9)
           have HL2 := Lib.hid (HLS.out.kept0 hk2)
           have hz2' := hk2.size
           clear hown2 hg2 hat2)
        | (refine wpList_append_rd _ rfl _ _ 45 rfl w.heap.size 30 j0 _ 1 24 Try.underlying45 hj hy0 hy1 hy2 rfl (by decide) (.slice A1 k cap1) k vs rfl (by have h9 := HL2.out.1; rw [HTL.out] at h9; exact World.ownsRow.alloc h9 _) _ 1 [.slice A2 b.length cap2] rfl (Rd.one _ _ _ rfl) (by simp [Value.oneCell']) m2 (by omega) (by simp; omega) ?_
           intro A3 cap3 w3 hown3 hg3 hat3))
      go_roundw
      case rel =>
        have hkA : Kept Kno w2 (w2.alloc (.cells #[.slice A2 b.length cap2] 30)) := (Kept.refl _ _).alloc _
        have hO : OwnB w2 w.heap.size 5 (.slice A2 b.length cap2) b := by have h9 := HO2.out; rw [Nat.zero_add] at h9; exact h9
        have hapd := ls_append (HL2.out.kept0 hkA) (own_kept hO hkA (fun _ _ h => h)) (v2 := .slice A3 (k + 1) cap3) (w2 := w3) (by rw [HTL.out]; exact hown3) hg3
        refine ⟨k + 1, A3, cap3, vs ++ [.slice A2 b.length cap2], by omega, by go_num, rfl, ?_, ?_⟩
        · rw [List.take_add_one, HBB.out]
          exact hapd
        · refine (HKK.out.then0 (hk2.then0 hkA)).grown hg3 (fun q hq e => ?_)
          have := (own_base HL2.out.1 e).1
          omega
      case measure => simp [intOf]; omega
    · have hk1 : ¬ (k : Int) < (rs.length : Int) := by omega
      obtain rfl : k = rs.length := by omega
      rw [List.take_length] at hls
      have HLS := Lib.hid hls
      clear hls
      go_wp2
      go_ret
      exact ⟨A1, cap1, vs, rfl, HLS.out, hkk⟩

end Go.Proofs.Yteoodgcpkgfomaa
