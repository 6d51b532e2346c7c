/-
  Codec: AppendValue.
-/
import Derived.Test.YtffdaohmalmkfaaGreatCodecI
import Derived.Deep.RegionHeld3
namespace Go.Proofs.YtffdaohmalmkfaaGreat
open Go.RowKit
set_option linter.unusedVariables false

/-- What AppendValue returns. -/
def valRes (l : List UInt8) (x : Val) : List UInt8 × Int :=
  if validB x.kind x.n x.s then (l ++ venc x, 0) else ([], 10)

theorem appendValue_key (v : Value) (l : List UInt8) (kind n : Int) (s : ByteArray) (M : List UInt8) (w : World) (h : Bs w v l) (hl : l.length ≤ 1000000) (hval : validB kind n s = true) (hM : M = l ++ venc ⟨kind, n, s⟩) (h1 : -9223372036854775808 ≤ n) (h2 : n ≤ 9223372036854775807) (hss : s.size ≤ 64) :
    ∀ w1, Kept Kno w w1 → Calls Tryz.prog 148 #[v, .int .i64 (IntKind.i64.wrap (11 + (s.size : Int)))] w1 (RetB l w1) := by
  intro w1 hk1
  have e11 : IntKind.i64.wrap ((11 : Int) + (s.size : Int)) = ((11 + s.size : Nat) : Int) := by rw [IntKind.wrap_i64]; omega
  rw [e11]
  exact grown_any _ l (11 + s.size) w1 (h.kept0 hk1) (by omega)

set_option maxHeartbeats 2000000 in
theorem appendValue_any (v : Value) (l : List UInt8) (x : Val) (w : World) (h : Bs w v l) (hx : okVal x) (hl : l.length ≤ 1000000) :
    Calls Tryz.prog 279 #[v, x.v] w (RetE (valRes l x) w) := by
  have H := Lib.hid h
  obtain ⟨Av, capv, rfl, -⟩ := h
  obtain ⟨kind, n, s⟩ := x
  obtain ⟨h1, h2, h3⟩ := hx
  simp only at h1 h2 h3
  simp only [Val.v]
  go_enter Tryz.func279, Tryz.ntmps279
  go_wp2_with fail
  have hkA : Kept Kno w (w.alloc (.cells #[.int .i64 kind, .int .i64 n, .string s] 49)) := (Kept.refl _ _).alloc _
  have HQ := Lib.hid (Blk.new w 49 #[.int .i64 kind, .int .i64 n, .string s])
  generalize (w.alloc (.cells #[.int .i64 kind, .int .i64 n, .string s] 49)) = wA at hkA HQ ⊢
  refine (valid_any kind n s wA).mono ?_
  rintro e w1 ⟨rfl, hk1⟩
  have hkw : Kept Kno w w1 := hkA.then0 hk1
  have d0 : w1.cell? ⟨w.heap.size, 0, none⟩ = some (.int .i64 kind) := hk1.cell_some (HQ.out.cell 0) (fun h => h)
  have d1 : w1.cell? ⟨w.heap.size, 1, none⟩ = some (.int .i64 n) := hk1.cell_some (HQ.out.cell 1) (fun h => h)
  have d2 : w1.cell? ⟨w.heap.size, 2, none⟩ = some (.string s) := hk1.cell_some (HQ.out.cell 2) (fun h => h)
  have HLT : Hid (w.heap.size < w1.heap.size) := Lib.hid (Nat.lt_of_lt_of_le HQ.out.lt hk1.size)
  clear hkA hk1 HQ
  cases hval : validB kind n s with
  | false =>
    have hx : RetE (valRes l ⟨kind, n, s⟩) w (.returned (.tuple #[.slice none 0 0, .int .i64 10])) w1 := by
      have e : valRes l ⟨kind, n, s⟩ = ([], 10) := by unfold valRes; simp only [hval]; rfl
      rw [e]
      exact ⟨none, 0, rfl, World.ownsRow_nil _ _ _ _, hkw⟩
    have HXX := Lib.hid hx
    clear hx hval
    go_wp2
    go_ret2
    exact HXX.out
  | true =>
    have hsz := valid_size ⟨kind, n, s⟩ hval
    simp only at hsz
    have e : valRes l ⟨kind, n, s⟩ = (l ++ venc ⟨kind, n, s⟩, 0) := by unfold valRes; simp only [hval]; rfl
    obtain ⟨M, hM⟩ : ∃ M, M = l ++ venc ⟨kind, n, s⟩ := ⟨_, rfl⟩
    rw [← hM] at e
    have E := Lib.hid e
    have HG := Lib.hid (appendValue_key _ l kind n s M w H.out hl hval hM h1 h2 hsz)
    have hB : w.heap.size < w1.heap.size := HLT.out
    have HP : Hid (∀ (b : Value) (wb : World), OwnB wb w1.heap.size 5 b l → w1.heap.size ≤ wb.heap.size → Calls Tryz.prog 298 #[b, .agg #[.int .i64 kind, .int .i64 n, .string s]] wb (PutB w1.heap.size M wb)) := Lib.hid (by
      intro b wb hb hs
      rw [hM]
      exact putValue_any w1.heap.size b l ⟨kind, n, s⟩ wb hb hval h1 h2 (by omega) hs)
    clear e hM hval
    go_upto_region 3 with (fail)
    clear h1 h2 h3 hl hsz
    go_region_held3 (fun w' => w'.cell? ⟨w.heap.size, 0, none⟩ = some (.int .i64 kind) ∧ w'.cell? ⟨w.heap.size, 1, none⟩ = some (.int .i64 n) ∧ w'.cell? ⟨w.heap.size, 2, none⟩ = some (.string s)) (first | (exact ⟨r0, r1, r2⟩) | (exact ⟨q0, q1, q2⟩) | (exact ⟨d0, d1, d2⟩) | go_keep)
      (first | (go_at_call 148; refine (HG.out _ (hkw.drew)).mono ?_; rintro e w2 ⟨A2, cap2, rfl, hown, hk'⟩; have hk2 : Kept Kno w1 w2 := ((Kept.refl _ w1).drew).then0 hk'; have HO : Hid (OwnB w2 w1.heap.size 5 (.slice A2 l.length cap2) l) := Lib.hid hown; have q0 := hk'.cell_some d0 (fun h => h); have q1 := hk'.cell_some d1 (fun h => h); have q2 := hk'.cell_some d2 (fun h => h); clear hk' hown)
             | (go_at_call 298; refine (HP.out _ _ HO.out hk2.size).mono ?_; rintro e w3 ⟨A3, cap3, rfl, hown3, hk3⟩; have HO3 := Lib.hid hown3; have r0 := hk3.cell_some q0 (fun h => by simp only [From] at h; omega); have r1 := hk3.cell_some q1 (fun h => by simp only [From] at h; omega); have r2 := hk3.cell_some q2 (fun h => by simp only [From] at h; omega); clear hown3))
    go_wp2
    go_ret2
    rw [E.out]
    exact ⟨_, _, rfl, own_rebase HO3.out (fun k hk => by have := (own_base HO3.out hk).1; omega), hkw.then0 (kept_from hk2 hk3 (Nat.le_refl _))⟩

end Go.Proofs.YtffdaohmalmkfaaGreat
