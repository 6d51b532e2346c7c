/-
  Packet: the reader, where what it reads is there.
-/
import Derived.Test.YtffdaohmalmkfaaGreatW9
import Derived.Test.YtffdaohmalmkfaaGreatW15
import Derived.Defers
import Derived.Recover
set_option linter.unusedSimpArgs false
set_option linter.unusedVariables false
namespace Go.Proofs.YtffdaohmalmkfaaGreat
open Go.RowKit
set_option linter.unusedVariables false

/-- Block R is a reader of v at the index n. -/
def Rdp (w : World) (R : Nat) (v : Value) (n : Nat) : Prop := Blk w R 120 #[v, .int .i64 (n : Int)]
def RdOk (R : Nat) (v : Value) (n : Nat) (x : Value) (w : World) (e : Ending) (w' : World) : Prop := e = .returned x ∧ Rdp w' R v n ∧ Kept (Kone R) w w'

set_option maxRecDepth 100000 in
theorem need_ok (w : World) : Calls Tryz.prog 97 #[.int .i64 0] w fun e w' => e = .returned (.tuple #[]) ∧ w = w' := by
  go_enter Tryz.func97, Tryz.ntmps97
  go_wp2
  go_end0
  exact ⟨rfl, rfl⟩

theorem uintRes_ok {l : List UInt8} {n N k : Nat} (hn : n ≤ l.length) (h : uintAt l n = .ok (N, k)) : uintRes l n = (N, n + k, 0) := by
  unfold uintRes
  rw [if_neg (by omega), Int.toNat_natCast, h]
theorem intRes_ok {l : List UInt8} {n N k : Nat} (hn : n ≤ l.length) (h : uintAt l n = .ok (N, k)) : intRes l n = (unzz N, n + k, 0) := by
  unfold intRes
  rw [if_neg (by omega), Int.toNat_natCast, h]

set_option maxRecDepth 100000 in
set_option maxHeartbeats 2000000 in
theorem rnumber_ok (R n N k : Nat) (v : Value) (l : List UInt8) (w : World) (h : Rdp w R v n) (hb : Bs w v l) (hl : l.length ≤ 1000000) (hn : n ≤ l.length) (hx : uintAt l n = .ok (N, k)) :
    Calls Tryz.prog 38 #[.pointer (some ⟨R, 0, none⟩)] w (RdOk R v (n + k) (.int .i64 (unzz N)) w) := by
  have H := Lib.hid h
  have hR := h.lt
  have c0 : w.cell? ⟨R, 0, none⟩ = some v := h.cell 0
  have c1 : w.cell? ⟨R, 1, none⟩ = some (.int .i64 (n : Int)) := h.cell 1
  have f1 := h.frozen 1
  have HC : Hid (∀ w', Kept Kno w w' → Calls Tryz.prog 96 #[v, .int .i64 (n : Int)] w' fun e w'' => e = .returned (.tuple #[.int .i64 (unzz N), .int .i64 ((n + k : Nat) : Int), .int .i64 0]) ∧ Kept Kno w' w'') := Lib.hid (fun w' hk => by
    have := intF_any v l n w' (hb.kept0 hk) hl
    rw [intRes_ok hn hx] at this
    exact this)
  obtain ⟨A, cap, rfl, -⟩ := hb
  generalize n + k = nk at HC ⊢
  generalize unzz N = z at HC ⊢
  clear h hx hn
  go_enter Tryz.func38, Tryz.ntmps38
  go_wp2_with fail
  go_region_law (rw [if_pos (by rfl)]; go_simp; refine (HC.out _ ((Kept.refl _ w).drew)).mono ?_; rintro e w1 ⟨rfl, hk'⟩; have hk : Kept Kno w w1 := Kept.then0 (Kept.drew (Kept.refl _ w)) hk'; have q1 := hk.cell_some c1 (fun h => h); have q2 := hk.frozen_no f1 hR (fun h => h); clear hk')
  all_goals
    go_wp2_with fail
    refine (need_ok _).mono ?_
    rintro e w2 ⟨rfl, rfl⟩
    have hr : Rdp (w1.setCell ⟨R, 1, none⟩ (.int .i64 (nk : Int))) R (.slice A l.length cap) nk := (Blk.kept H.out hk (fun h => h)).set_ 1 _
    have HX : Hid (RdOk R (.slice A l.length cap) nk (.int .i64 z) w (.returned (.int .i64 z)) (w1.setCell ⟨R, 1, none⟩ (.int .i64 (nk : Int)))) := Lib.hid ⟨rfl, hr, (hk.mono (T := Kone R) (fun _ _ h => h.elim)).setIn (p := ⟨R, 1, none⟩) (Eq.refl R) _⟩
    clear hr hk
    go_wp2
    go_ret
    exact HX.out

set_option maxRecDepth 100000 in
set_option maxHeartbeats 2000000 in
theorem rcount_ok (R n N k : Nat) (v : Value) (l : List UInt8) (w : World) (h : Rdp w R v n) (hb : Bs w v l) (hl : l.length ≤ 1000000) (hn : n ≤ l.length) (hx : uintAt l n = .ok (N, k)) (hN : N + (n + k) ≤ l.length) :
    Calls Tryz.prog 240 #[.pointer (some ⟨R, 0, none⟩)] w (RdOk R v (n + k) (.int .i64 N) w) := by
  have H := Lib.hid h
  have hR := h.lt
  have c0 : w.cell? ⟨R, 0, none⟩ = some v := h.cell 0
  have c1 : w.cell? ⟨R, 1, none⟩ = some (.int .i64 (n : Int)) := h.cell 1
  have f1 := h.frozen 1
  have HC : Hid (∀ w', Kept Kno w w' → Calls Tryz.prog 273 #[v, .int .i64 (n : Int)] w' fun e w'' => e = .returned (.tuple #[.int .u64 N, .int .i64 ((n + k : Nat) : Int), .int .i64 0]) ∧ Kept Kno w' w'') := Lib.hid (fun w' hk => by
    have := uintF_any v l n w' (hb.kept0 hk) hl
    rw [uintRes_ok hn hx] at this
    exact this)
  obtain ⟨A, cap, rfl, -⟩ := hb
  generalize n + k = nk at HC hN ⊢
  have s1 : IntKind.i64.wrap ((l.length : Int) - (nk : Int)) = (l.length : Int) - (nk : Int) := IntWalk.i64_in _ (by omega)
  have s2 : IntKind.u64.wrap ((l.length : Int) - (nk : Int)) = (l.length : Int) - (nk : Int) := by rw [IntKind.wrap_u64]; omega
  have s3 : ¬ (l.length : Int) - (nk : Int) < (N : Int) := by omega
  have s4 : IntKind.i64.wrap (N : Int) = (N : Int) := IntWalk.i64_in _ (by omega)
  have s5 : (N : Int) ≤ 9223372036854775807 := by omega
  have s6 : (0 : Int) ≤ (l.length : Int) - (nk : Int) := by omega
  have s7 : (l.length : Int) - (nk : Int) ≤ 1000000 := by omega
  clear h hx hn
  go_enter Tryz.func240, Tryz.ntmps240
  go_wp2_with fail
  go_region_law (rw [if_pos (by rfl)]; go_simp; refine (HC.out _ ((Kept.refl _ w).drew)).mono ?_; rintro e w1 ⟨rfl, hk'⟩; have hk : Kept Kno w w1 := Kept.then0 (Kept.drew (Kept.refl _ w)) hk'; have q0 := hk.cell_some c0 (fun h => h); have q1 := hk.cell_some c1 (fun h => h); have q2 := hk.frozen_no f1 hR (fun h => h); clear hk')
  all_goals
    go_wp2_with fail
    refine (need_ok _).mono ?_
    rintro e w2 ⟨rfl, rfl⟩
    have hr : Rdp (w1.setCell ⟨R, 1, none⟩ (.int .i64 (nk : Int))) R (.slice A l.length cap) nk := (Blk.kept H.out hk (fun h => h)).set_ 1 _
    have HX : Hid (RdOk R (.slice A l.length cap) nk (.int .i64 N) w (.returned (.int .i64 N)) (w1.setCell ⟨R, 1, none⟩ (.int .i64 (nk : Int)))) := Lib.hid ⟨rfl, hr, (hk.mono (T := Kone R) (fun _ _ h => h.elim)).setIn (p := ⟨R, 1, none⟩) (Eq.refl R) _⟩
    have q3 : (w1.setCell ⟨R, 1, none⟩ (.int .i64 (nk : Int))).cell? ⟨R, 0, none⟩ = some (.slice A l.length cap) := hr.cell 0
    clear hr hk
    go_wp2
    go_ret
    exact HX.out

set_option maxRecDepth 100000 in
set_option maxHeartbeats 2000000 in
theorem rsubs_none (R n k : Nat) (v : Value) (l : List UInt8) (w : World) (h : Rdp w R v n) (hb : Bs w v l) (hl : l.length ≤ 1000000) (hx : uintAt l n = .ok (0, k)) (hn : n + k ≤ l.length) :
    Calls Tryz.prog 153 #[.pointer (some ⟨R, 0, none⟩)] w (RdOk R v (n + k) (.slice none 0 0) w) := by
  have HC := Lib.hid (rcount_ok R n 0 k v l w h hb hl (by omega) hx (by omega))
  clear h hb hx hn
  go_enter Tryz.func153, Tryz.ntmps153
  go_wp2_with fail
  refine HC.out.mono ?_
  rintro e w1 ⟨rfl, hr, hk⟩
  have HX : Hid (RdOk R v (n + k) (.slice none 0 0) w (.returned (.slice none 0 0)) w1) := Lib.hid ⟨rfl, hr, hk⟩
  clear hr hk
  go_wp2_with fail
  go_loopw [3, 4] (fun s i wr => s = .slice none 0 0 ∧ i = .int .i64 0 ∧ wr = w1) (fun _ _ _ => 0)
  case atStart => exact ⟨rfl, rfl, rfl⟩
  case round =>
    obtain ⟨rfl, rfl, rfl⟩ := hrel
    go_wp2
    go_ret
    exact HX.out

def KRM (R M : Nat) : Nat → Prop := fun k => k = R ∨ k = M
/-- What a field's closure reads: the reader goes from n to n', the message's cells from cs to cs'. -/
def FdRd (w : World) (R M : Nat) (v rv : Value) (n : Nat) (cs : Array Value) (n' : Nat) (cs' : Array Value) : Prop :=
  ∃ (K : Nat) (caps : Array Value), rv = .func (.func K) #[] caps ∧ Ent K ∧ ∀ w' : World, Kept (KRM R M) w w' → Rdp w' R v n → Blk w' M 36 cs → Calls Tryz.prog K (#[.pointer (some ⟨R, 0, none⟩), .pointer (some ⟨M, 0, none⟩)] ++ caps) w' fun e w'' => e = .returned (.tuple #[]) ∧ Rdp w'' R v n' ∧ Blk w'' M 36 cs' ∧ Kept (KRM R M) w' w''

set_option maxRecDepth 100000 in
set_option maxHeartbeats 2000000 in
theorem rfNum (R M X kf off n N k : Nat) (x : Value) (cs : Array Value) (v : Value) (l : List UInt8) (w : World) (hof : OfIs kf off) (hX : w.cell? ⟨X, 0, none⟩ = some (.func (.func kf) #[] #[])) (h : Rdp w R v n) (hM : Blk w M 36 cs) (hRM : R ≠ M) (hc : cs[off]? = some x) (hb : Bs w v l) (hl : l.length ≤ 1000000) (hn : n ≤ l.length) (hx : uintAt l n = .ok (N, k)) :
    Calls Tryz.prog 150 #[.pointer (some ⟨R, 0, none⟩), .pointer (some ⟨M, 0, none⟩), .pointer (some ⟨X, 0, none⟩)] w fun e w' => e = .returned (.tuple #[]) ∧ Rdp w' R v (n + k) ∧ Blk w' M 36 (cs.setIfInBounds off (.int .i64 (unzz N))) ∧ Kept (KRM R M) w w' := by
  have HO := Lib.hid hof.2
  have e1 : ∀ (args : Array Value) (w : World), (callFunc kf args).run Tryz.prog w = .ok (.enter kf args) w := hof.1
  have HN := Lib.hid (rnumber_ok R n N k v l w h hb hl hn hx)
  have HM := Lib.hid hM
  have hcM : w.cell? ⟨M, off, none⟩ = some x := (hM.cell off).trans hc
  have HCM := Lib.hid hcM
  generalize n + k = nk at HN ⊢
  generalize unzz N = z at HN ⊢
  clear hof h hM hb hx hn hc hcM
  go_enter Tryz.func150, Tryz.ntmps150
  go_wp2_with fail
  refine (HO.out _ _).mono ?_
  rintro e w1 ⟨rfl, rfl⟩
  go_wp2_with fail
  refine HN.out.mono ?_
  rintro e w2 ⟨rfl, hr2, hk2⟩
  have hM2 := HM.out.kept hk2 (fun h => hRM h.symm)
  have cM : w2.cell? ⟨M, off, none⟩ = some x := hk2.cell_some HCM.out (fun h => hRM h.symm)
  have fM := hM2.frozen off
  have HX : Hid (Rdp (w2.setCell ⟨M, off, none⟩ (.int .i64 z)) R v nk ∧ Blk (w2.setCell ⟨M, off, none⟩ (.int .i64 z)) M 36 (cs.setIfInBounds off (.int .i64 z)) ∧ Kept (KRM R M) w (w2.setCell ⟨M, off, none⟩ (.int .i64 z))) :=
    Lib.hid ⟨Blk.far hr2 hRM _, hM2.set_ off _, (hk2.mono (T := KRM R M) (fun _ _ h => .inl h)).setIn (p := ⟨M, off, none⟩) (.inr rfl) _⟩
  clear hr2 hk2 hM2
  go_wp2
  go_end0
  exact ⟨rfl, HX.out⟩

set_option maxRecDepth 100000 in
set_option maxHeartbeats 2000000 in
theorem rfSubs0 (R M X kf off n k : Nat) (x : Value) (cs : Array Value) (v : Value) (l : List UInt8) (w : World) (hof : OfIs kf off) (hX : w.cell? ⟨X, 0, none⟩ = some (.func (.func kf) #[] #[])) (h : Rdp w R v n) (hM : Blk w M 36 cs) (hRM : R ≠ M) (hc : cs[off]? = some x) (hb : Bs w v l) (hl : l.length ≤ 1000000) (hn : n + k ≤ l.length) (hx : uintAt l n = .ok (0, k)) :
    Calls Tryz.prog 152 #[.pointer (some ⟨R, 0, none⟩), .pointer (some ⟨M, 0, none⟩), .pointer (some ⟨X, 0, none⟩)] w fun e w' => e = .returned (.tuple #[]) ∧ Rdp w' R v (n + k) ∧ Blk w' M 36 (cs.setIfInBounds off (.slice none 0 0)) ∧ Kept (KRM R M) w w' := by
  have HO := Lib.hid hof.2
  have e1 : ∀ (args : Array Value) (w : World), (callFunc kf args).run Tryz.prog w = .ok (.enter kf args) w := hof.1
  have HN := Lib.hid (rsubs_none R n k v l w h hb hl hx hn)
  have HM := Lib.hid hM
  have hcM : w.cell? ⟨M, off, none⟩ = some x := (hM.cell off).trans hc
  have HCM := Lib.hid hcM
  generalize n + k = nk at HN ⊢
  clear hof h hM hb hx hn hc hcM
  go_enter Tryz.func152, Tryz.ntmps152
  go_wp2_with fail
  refine (HO.out _ _).mono ?_
  rintro e w1 ⟨rfl, rfl⟩
  go_wp2_with fail
  refine HN.out.mono ?_
  rintro e w2 ⟨rfl, hr2, hk2⟩
  have hM2 := HM.out.kept hk2 (fun h => hRM h.symm)
  have cM : w2.cell? ⟨M, off, none⟩ = some x := hk2.cell_some HCM.out (fun h => hRM h.symm)
  have fM := hM2.frozen off
  have HX : Hid (Rdp (w2.setCell ⟨M, off, none⟩ (.slice none 0 0)) R v nk ∧ Blk (w2.setCell ⟨M, off, none⟩ (.slice none 0 0)) M 36 (cs.setIfInBounds off (.slice none 0 0)) ∧ Kept (KRM R M) w (w2.setCell ⟨M, off, none⟩ (.slice none 0 0))) :=
    Lib.hid ⟨Blk.far hr2 hRM _, hM2.set_ off _, (hk2.mono (T := KRM R M) (fun _ _ h => .inl h)).setIn (p := ⟨M, off, none⟩) (.inr rfl) _⟩
  clear hr2 hk2 hM2
  go_wp2
  go_end0
  exact ⟨rfl, HX.out⟩

set_option maxRecDepth 100000 in
set_option maxHeartbeats 1000000 in
theorem decD_idle (p q : Addr) (w : World) :
    CallsD Tryz.prog 37 #[.pointer (some p), .pointer (some q)] .returning w fun e u' w' => e = .returned (.tuple #[]) ∧ u' = .returning ∧ w' = w := by
  refine callsD_of_wpS Tryz.func37 rfl fun c₀ cs hu => ?_
  apply wpS_seq
  apply wpS_region
  simp [wpOpsS, go_sem, recoverD, hu, Tryz.ntmps37, Exit.thenS]
  apply wpS_seq
  apply wpS_region
  simp [wpOpsS, go_sem, Exit.thenS]
  refine wpS_cond (t := false) (by simp [Act.eval, Array.replicate]) ?_
  simp only [Bool.false_eq_true, if_false]
  refine wpS_of_wp (wp_skip ?_)
  cases c₀
  simp_all [bodyPostS, results, Tryz.results37]

end Go.Proofs.YtffdaohmalmkfaaGreat
