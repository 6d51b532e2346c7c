/-
  JournalStops: the walk of the law.
-/
import Derived.Test.YteoodgcpkgfomaaM11
namespace Go.Proofs.Yteoodgcpkgfomaa
open Go.RowKit
set_option linter.unusedVariables false

/-- A new row of 1048577 bytes. -/
theorem make_big : ∃ C : Array Value, C = (List.replicate 1048577 (Value.int .u8 0)).toArray ∧ ∀ w : World, (Instr.makeSlice 30 (.int .i64 1048577) (.int .i64 1048577)).run Try.prog w = .ok (.slice (some ⟨w.heap.size, 0, none⟩) 1048577 1048577) (w.alloc (.cells C 5)) := by
  obtain ⟨i0, hi, hz0, hz1, hz2⟩ := info_parts info_byte
  refine ⟨_, rfl, fun w => ?_⟩
  have h := run_make (P := Try.prog) w 30 5 i0 _ Try.underlying30 hi hz0 .i64 .i64 1048577 1048577 (by omega) (by omega) (by rw [hz2]; decide) (by omega)
  rw [hz1, Nat.mul_one] at h
  have e : ∀ n, madeCells (Value.int .u8 0).cells n = (List.replicate n (Value.int .u8 0)).toArray := by
    intro n
    apply Array.ext
    · simp [madeCells]
    · intro i h1 h2
      simp [madeCells, Value.cells, Nat.mod_one]
  rw [e] at h
  exact h
theorem bs_zero {w : World} {g o n c : Nat} {cs : Array Value} (h : Blk w g 5 cs) (hc : cs = (List.replicate (o + n) (Value.int .u8 0)).toArray) (hn : n ≤ c) : Bs w (.slice (some ⟨g, o, none⟩) n c) (List.replicate n 0) := by
  subst hc
  refine ⟨some ⟨g, o, none⟩, c, by rw [List.length_replicate], by rw [List.length_replicate]; exact hn, by simp, (fun h => by cases h), fun ad hA j u hj => ?_⟩
  injection hA with hA
  subst hA
  rw [add_lit0, h.cell]
  rw [List.map_replicate, List.getElem?_replicate] at hj
  split at hj
  · rw [List.getElem?_toArray, List.getElem?_replicate, if_pos (by omega)]
    exact hj
  · cases hj

/-- Between two steps of the law: the journal, its disk, and the row of zeros aside. -/
structure St (w1 w : World) (J B G : Nat) (fs : List File) (rv ev : Value) (us : List Value) (s : JA) (Z Y : List UInt8) : Prop where
  is : Is w w1.heap.size B fs s.a
  jr : Jr w w1.heap.size J B 0 rv ev us s.rs s.off
  ap : JApart J B fs rv ev us
  k : Kept Kno w1 w
  g : G < w.heap.size ∧ ¬ JOwn J rv ev us G ∧ ¬ DK B fs G
  z : Bs w (.slice (some ⟨G, 0, none⟩) 1048577 1048577) Z
  y : Bs w (.slice (some ⟨G, 1, none⟩) 1048576 1048576) Y
section
variable {w1 w w' : World} {J B G : Nat} {fs : List File} {rv ev : Value} {us : List Value} {s s' : JA} {Z Y : List UInt8}
theorem bs_aside {v : Value} {b : List UInt8} (hb : Bs w v b) (hv : v.ownBlock = some G) (hg : ¬ JOwn J rv ev us G ∧ ¬ DK B fs G) (hk : Kept (fun k => JOwn J rv ev us k ∨ DK B fs k) w w') : Bs w' v b :=
  Rd.kept hb hk (fun k e e' => by rw [hv] at e; injection e with e; subst e; exact e'.elim hg.1 hg.2)
theorem St.turn (h : St w1 w J B G fs rv ev us s Z Y) (ht : JTurn w1.heap.size J B 0 fs rv ev us s' w w') : ∃ fs' rv' ev' us', St w1 w' J B G fs' rv' ev' us' s' Z Y := by
  obtain ⟨fs', rv', ev', us', h1, h2, h3, h4, h5, h6⟩ := ht
  have hs := h4.size
  refine ⟨fs', rv', ev', us', h1, h2, h3, jkept h.k (Nat.le_refl _) h.jr h.is h4, ⟨by have := h.g.1; omega, fun e => ?_, fun e => ?_⟩, bs_aside h.z rfl h.g.2 h4, bs_aside h.y rfl h.g.2 h4⟩
  · rcases h6 G e with h7 | h7
    · exact h.g.2.1 h7
    · have := h.g.1; omega
  · rcases h5 G e with h7 | h7
    · exact h.g.2.2 h7
    · have := h.g.1; omega
theorem St.kept0 (h : St w1 w J B G fs rv ev us s Z Y) (hk : Kept Kno w w') : St w1 w' J B G fs rv ev us s Z Y :=
  ⟨h.is.kept0 hk, h.jr.kept0 hk, h.ap, h.k.then0 hk, ⟨Nat.lt_of_lt_of_le h.g.1 hk.size, h.g.2⟩, Rd.kept0 h.z hk, Rd.kept0 h.y hk⟩
theorem St.zfar (h : St w1 w J B G fs rv ev us s Z Y) : ∀ w', Kept (fun k => JOwn J rv ev us k ∨ DK B fs k) w w' → Bs w' (.slice (some ⟨G, 0, none⟩) 1048577 1048577) Z := fun _ hk => bs_aside h.z rfl h.g.2 hk
theorem St.yfar (h : St w1 w J B G fs rv ev us s Z Y) : ∀ w', Kept (fun k => JOwn J rv ev us k ∨ DK B fs k) w w' → Bs w' (.slice (some ⟨G, 1, none⟩) 1048576 1048576) Y := fun _ hk => bs_aside h.y rfl h.g.2 hk
theorem St.dturn (h : St w1 w J B G fs rv ev us s Z Y) {a' : Ab} (ht : Turn w1.heap.size B fs a' w w') : ∃ fs', St w1 w' J B G fs' rv ev us ⟨a', s.rs, s.off⟩ Z Y := by
  obtain ⟨fs', hi, hk, hd⟩ := ht.is
  have hkk : Kept (fun k => JOwn J rv ev us k ∨ DK B fs k) w w' := hk.mono (fun _ _ h => .inr h)
  have hs := hk.size
  refine ⟨fs', hi, h.jr.kept hk (fun k e => h.ap k e), fun k e e' => ?_, jkept h.k (Nat.le_refl _) h.jr h.is hkk, ⟨by have := h.g.1; omega, h.g.2.1, fun e => ?_⟩, bs_aside h.z rfl h.g.2 hkk, bs_aside h.y rfl h.g.2 hkk⟩
  · rcases hd k e' with h7 | h7
    · exact h.ap k e h7
    · have := (h.jr.own_low e).2; omega
  · rcases hd G e with h7 | h7
    · exact h.g.2.2 h7
    · have := h.g.1; omega
theorem lsr_two (w : World) (t : TypeId) {v0 v1 : Value} {b0 b1 : List UInt8} (h0 : Bs w v0 b0) (h1 : Bs w v1 b1) : LsR (w.alloc (.cells #[v0, v1] t)) (.slice (some ⟨w.heap.size, 0, none⟩) 2 2) [v0, v1] [b0, b1] := by
  refine ⟨⟨_, _, rfl, by simp, rfl, (fun h => by cases h), fun ad hA j u hj => ?_⟩, fun i x b hx hb => ?_⟩
  · cases hA
    rw [add_lit0, Nat.zero_add, (Blk.new w t #[v0, v1]).cell]
    simpa using hj
  · rcases i with _ | _ | i
    · simp at hx hb; subst hx hb; exact Rd.alloc h0 _
    · simp at hx hb; subst hx hb; exact Rd.alloc h1 _
    · simp at hx
theorem lsr_one (w : World) (t : TypeId) {v0 : Value} {b0 : List UInt8} (h0 : Bs w v0 b0) : LsR (w.alloc (.cells #[v0] t)) (.slice (some ⟨w.heap.size, 0, none⟩) 1 1) [v0] [b0] := by
  refine ⟨⟨_, _, rfl, by simp, rfl, (fun h => by cases h), fun ad hA j u hj => ?_⟩, fun i x b hx hb => ?_⟩
  · cases hA
    rw [add_lit0, Nat.zero_add, (Blk.new w t #[v0]).cell]
    simpa using hj
  · rcases i with _ | i
    · simp at hx hb; subst hx hb; exact Rd.alloc h0 _
    · simp at hx
/-- The law's own lists stay where the journal works. -/
theorem St.lfar (h : St w1 w J B G fs rv ev us s Z Y) {v : Value} {vs : List Value} {bs : List (List UInt8)} {o : Obj} (hl : LsR (w.alloc o) v vs bs) (hv : v.ownBlock = some w.heap.size) (hu : ∀ u ∈ vs, u.ownBlock = none ∨ u.ownBlock = some G) : ∀ w', Kept (fun k => JOwn J rv ev us k ∨ DK B fs k) (w.alloc o) w' → LsR w' v vs bs := by
  intro w' hk
  refine hl.kept hk (fun k e e' => ?_) (fun u hu' k e e' => ?_)
  · rw [hv] at e; injection e with e
    rcases e' with e' | e'
    · have := (h.jr.own_low e').2; omega
    · have := (h.is.low e').2; omega
  · rcases hu u hu' with h9 | h9
    · rw [h9] at e; cases e
    · rw [h9] at e; injection e with e; subst e
      exact e'.elim h.g.2.1 h.g.2.2
end

/-- A calm disk with a plan to fail at once: whatever the journal is asked, it answers that the power is off. -/
theorem play_dead {a : Ab} (h : Calm a) {R : List (List UInt8)} (hr : (a.used : Int) + 1 ≤ a.room) (kind : Int) (h1 : 1 ≤ kind) (h4 : kind ≤ 4) :
    ∃ a', (⟨a.fail 1, R, false⟩ : JA).play 0 kind 0 [] [] = (⟨a', R, true⟩, 220) := by
  have hf : a.fail 1 = ⟨a.room, a.fs, false, 1⟩ := by unfold Ab.fail; rw [h.off]; rfl
  have hu : (⟨a.room, a.fs, false, 1⟩ : Ab).used = a.used := rfl
  rw [hf]
  unfold JA.play
  have hk : kind = 1 ∨ kind = 2 ∨ kind = 3 ∨ kind = 4 := by omega
  rcases hk with rfl | rfl | rfl | rfl
  · rw [if_pos rfl]
    simp only [JA.append, Bool.false_eq_true, if_false]
    rw [if_neg (by simp)]
    unfold Ab.append
    rw [if_neg (by simp [checkOf]), if_neg (by rw [hu]; show ¬ a.room - (a.used : Int) < ((frame []).length : Int); have : (frame []).length = 1 := by decide
                                               omega)]
    exact ⟨_, rfl⟩
  · rw [if_neg (by decide), if_pos rfl]
    simp only [JA.sync, Bool.false_eq_true, if_false]
    unfold Ab.sync
    rw [if_neg (by simp [checkOf])]
    exact ⟨_, rfl⟩
  · rw [if_neg (by decide), if_neg (by decide), if_pos rfl]
    simp only [JA.trunc, Bool.false_eq_true, if_false]
    rw [if_neg (by omega)]
    unfold Ab.trunc
    rw [if_neg (by simp [checkOf]), if_neg (by simp [frames])]
    exact ⟨_, rfl⟩
  · rw [if_neg (by decide), if_neg (by decide), if_neg (by decide), if_pos rfl]
    simp only [JA.rewrite, Bool.false_eq_true, if_false]
    rw [if_neg (by simp)]
    unfold Ab.replace
    rw [if_neg (by simp [checkOf]), if_neg (by
      have h9 : (frames []).length = 0 := rfl
      have h8 : (⟨a.room, a.fs, false, 1⟩ : Ab).used = a.used := rfl
      have h7 := Int.natCast_nonneg ((⟨a.room, a.fs, false, 1⟩ : Ab).file (Int.toNat 0)).1.length
      rw [h9, h8]
      show ¬ a.room - ((a.used : Int) - _) < ((0 : Nat) : Int)
      omega)]
    exact ⟨_, rfl⟩

set_option maxRecDepth 100000 in
set_option maxHeartbeats 20000000 in
theorem stops_walk (v : Value) (p : List Value × List (List UInt8)) (n lg : Int) (w : World) (hr : LsR w v p.1 p.2 ∧ p.2.length ≤ maxLen ∧ ∀ b ∈ p.2, b.length ≤ maxLen) (hlg0 : 0 ≤ lg) (hlg1 : lg ≤ 255) :
    Calls Try.prog 8 #[v, .int .i64 n, .int .u8 lg] w (RetNew (.bool true) w) := by
  obtain ⟨C, hC, mk⟩ := make_big
  have HCC := Lib.hid hC
  clear hC
  have hf3 : ∀ (v0 v1 v2 v3 v4 : Value) (w : World), (Instr.field 47 (.agg #[v0, v1, v2, v3, v4]) 3).run Try.prog w = .ok v3 w := fun _ _ _ _ _ _ => by kernel_rfl
  obtain ⟨us, rs⟩ := p
  simp only at hr
  have HR := Lib.hid hr
  obtain ⟨Ar, cr, rfl, hrc⟩ := hr.1.form
  clear hr
  go_enter Try.func8, Try.ntmps8
  go_wp2_with fail
  refine (cut_any 0 0 (.slice none 0 0) _ [] us rs none 0 0 w (nil_bs w) HR.out.1 (by simp) HR.out.2.1 HR.out.2.2).mono ?_
  rintro e w1 ⟨A1, n1, c1, A2, c2, vs, rfl, -, hown1, hel1, hk1⟩
  have HLS : Hid (LsR w1 (.slice A2 (cutR rs).length c2) vs (cutR rs)) := Lib.hid ⟨Rd.of_own hown1, hel1⟩
  have hRl := cutR_len rs
  have hRm := fun (b : List UInt8) (hb : b ∈ cutR rs) => cutR_mem hb
  have hRf := cutR_frames rs
  have hRs := cutR_short rs
  have HRM := Lib.hid hRm
  have HRS := Lib.hid hRs
  have HK1 := Lib.hid hk1
  have hc3 : (cutR rs).length ≤ c2 := by
    obtain ⟨A3, cap3, e3, hc3⟩ := HLS.out.form
    injection e3 with _ _ e3
    omega
  generalize cutR rs = R at hRl hRf HLS HRM HRS hc3 ⊢
  clear hown1 hel1 hRm hRs hk1 HR hrc
  go_wp2_with fail
  refine (new_ok 16777216 _ (by omega) (by omega)).mono ?_
  rintro e w5 ⟨rfl, hw5⟩
  have hk5 : Kept Kno w1 w5 := by rw [hw5]; exact (Kept.refl _ _).alloc _
  have hn5 : Is w5 w1.heap.size w1.heap.size (List.replicate 8 noFile) (ab0 16777216) := by rw [hw5]; exact is_new w1 _ 16777216 (Nat.le_refl _) (by omega) (by omega)
  have HN5 := Lib.hid hn5
  clear hw5 hn5 hf3
  go_wp2_with fail
  have hop := open_any w1.heap.size w1.heap.size 0 _ (ab0 16777216) w5 HN5.out (by decide)
  rw [jopen_empty (ab0 16777216) 0 (by decide)] at hop
  refine hop.mono ?_
  rintro e w6 ⟨fs6, hi6, hkk6, hd6, J, rv6, ev6, us6, rfl, hj6, ha6⟩
  have hk6 : Kept Kno w1 w6 := HN5.out.kept hk5 (Nat.le_refl _) hkk6
  have HI6 := Lib.hid hi6
  have HJ6 := Lib.hid (hj6.rebase hk5.size)
  have HA6 := Lib.hid ha6
  clear hi6 hj6 ha6 hkk6 hd6 HN5 hop
  go_wp2_with fail
  have hrw := jrewrite_any (⟨ab0 16777216, [], false⟩ : JA) _ vs R HJ6.out HI6.out HA6.out (HLS.out.kept0 hk6) (fun w' hk => HLS.out.kept0 (jkept hk6 (Nat.le_refl _) HJ6.out HI6.out hk)) (by omega) (fun _ => by omega) hk6.size (fun b hb => by have := HRM.out b hb; simp only [maxLen]; omega)
  have e1 : (⟨ab0 16777216, [], false⟩ : JA).rewrite 0 R = (⟨(ab0 16777216).put 0 (frames R, (frames R).length), R, false⟩, 0) := JA.rewrite_calm (f := 0) (calm0 _) (by omega) [] R HRS.out (by rw [used0]; show ((0 : Nat) : Int) + _ ≤ (16777216 : Int); omega)
  rw [e1] at hrw
  refine hrw.mono ?_
  rintro e w7 ⟨rfl, fs7, rv7, ev7, us7, hi7, hj7, ha7, hkk7, -, -⟩
  have hk7 : Kept Kno w1 w7 := jkept hk6 (Nat.le_refl _) HJ6.out HI6.out hkk7
  have HI7 := Lib.hid hi7
  have HJ7 := Lib.hid hj7
  have HA7 := Lib.hid ha7
  clear hi7 hj7 ha7 hkk7 e1 hrw HI6 HJ6 HA6
  have hcalm7 : Calm ((ab0 16777216).put 0 (frames R, (frames R).length)) := (calm0 16777216).put _
  have hfile7 : ((ab0 16777216).put 0 (frames R, (frames R).length)).file 0 = (frames R, (frames R).length) := (calm0 16777216).file_put (by omega) _
  have hused7 : ((ab0 16777216).put 0 (frames R, (frames R).length)).used = (frames R).length := by
    have h9 := (calm0 16777216).used_put (f := 0) (by omega) (frames R, (frames R).length)
    rw [used0, file0] at h9
    simpa using h9
  have hroom7 : ((ab0 16777216).put 0 (frames R, (frames R).length)).room = 16777216 := rfl
  generalize (ab0 16777216).put 0 (frames R, (frames R).length) = a7 at HI7 hcalm7 hfile7 hused7 hroom7
  go_wp2_with fail
  clear mk
  have hkb : Kept Kno w7 (w7.alloc (.cells C 5)) := (Kept.refl _ _).alloc _
  have hblk := Blk.new w7 5 C
  generalize (w7.alloc (.cells C 5)) = w8 at hkb hblk ⊢
  obtain ⟨Z, hZ, hZb⟩ : ∃ Z : List UInt8, Z.length = 1048577 ∧ Bs w8 (.slice (some ⟨w7.heap.size, 0, none⟩) 1048577 1048577) Z := ⟨_, List.length_replicate, bs_zero hblk (by rw [HCC.out]) (by omega)⟩
  obtain ⟨Y, hY, hYb⟩ : ∃ Y : List UInt8, Y.length = 1048576 ∧ Bs w8 (.slice (some ⟨w7.heap.size, 1, none⟩) 1048576 1048576) Y := ⟨_, List.length_replicate, bs_zero hblk (by rw [HCC.out]) (by omega)⟩
  have HZ := Lib.hid hZ
  have HY := Lib.hid hY
  have HZB := Lib.hid hZb
  have HYB := Lib.hid hYb
  have HS8 : Hid (St w1 w8 J w1.heap.size w7.heap.size fs7 rv7 ev7 us7 ⟨a7, R, false⟩ Z Y) := Lib.hid ⟨HI7.out.kept0 hkb, HJ7.out.kept0 hkb, HA7.out, hk7.then0 hkb, ⟨hblk.lt, fun e => by have := (HJ7.out.own_low e).2; omega, fun e => by have := (HI7.out.low e).2; omega⟩, hZb, hYb⟩
  have HCALM := Lib.hid hcalm7
  have HFILE := Lib.hid hfile7
  have HUSED := Lib.hid hused7
  have HROOM := Lib.hid hroom7
  generalize w7.heap.size = G at HS8 ⊢
  clear hkb hblk hZ hY hZb hYb HJ7 HI7 HA7 HCC HZB HYB hcalm7 hfile7 hused7 hroom7 hk7 hk6 hk5
  have hap := jappend_any (⟨a7, R, false⟩ : JA) (.slice (some ⟨G, 0, none⟩) 1048577 1048577) Z HS8.out.jr HS8.out.is HS8.out.ap HS8.out.z HS8.out.zfar (fun _ h9 => absurd h9 (by have := HZ.out; omega)) HS8.out.k.size
  have e1 : (⟨a7, R, false⟩ : JA).append 0 Z = (⟨a7, R, false⟩, 2) := by
    simp only [JA.append, Bool.false_eq_true, if_false]
    rw [if_pos (by have := HZ.out; omega)]
  rw [e1] at hap
  refine hap.mono ?_
  rintro e w9 ⟨rfl, ht⟩
  obtain ⟨fs9, rv9, ev9, us9, hs9⟩ := HS8.out.turn ht
  have HS9 := Lib.hid hs9
  clear ht hs9 hap e1 HS8
  go_wp2_with fail
  have HL9 := Lib.hid (lsr_two w9 30 (nil_bs w9) HS9.out.z)
  have HSA := Lib.hid (HS9.out.kept0 ((Kept.refl Kno w9).alloc (.cells #[.slice none 0 0, .slice (some ⟨G, 0, none⟩) 1048577 1048577] 30)))
  have hany : ([([] : List UInt8), Z].any fun b => decide (1048576 < b.length)) = true := by simp [HZ.out]
  have hrw := jrewrite_any (⟨a7, R, false⟩ : JA) _ _ _ HSA.out.jr HSA.out.is HSA.out.ap HL9.out (HS9.out.lfar HL9.out rfl (fun u hu => by rcases List.mem_cons.1 hu with rfl | hu; exact .inl rfl; rw [List.mem_singleton.1 hu]; exact .inr rfl)) (by simp) (fun h9 => by rw [hany] at h9; cases h9) HSA.out.k.size (fun b hb => by rcases List.mem_cons.1 hb with rfl | hb; simp [maxLen]; rw [List.mem_singleton.1 hb, HZ.out]; simp [maxLen])
  have e1 : (⟨a7, R, false⟩ : JA).rewrite 0 [[], Z] = (⟨a7, R, false⟩, 2) := by
    simp only [JA.rewrite, Bool.false_eq_true, if_false]
    rw [hany, if_pos rfl]
  rw [e1] at hrw
  refine hrw.mono ?_
  rintro e w10 ⟨rfl, ht⟩
  obtain ⟨fs10, rv10, ev10, us10, hs10⟩ := HSA.out.turn ht
  have HS10 := Lib.hid hs10
  clear ht hs10 hrw e1 hany HS9 HSA HL9
  go_wp2_with fail
  have hYl := HY.out
  have hlf : (frame Y).length ≤ 1048579 := by have h9 := leb_short Y.length (by omega); rw [frame_length]; omega
  have hfS : (frames (R ++ [Y])).length = (frames R).length + (frame Y).length := by rw [frames_snoc, List.length_append]
  have HFS := Lib.hid hfS
  have hap := jappend_any (⟨a7, R, false⟩ : JA) (.slice (some ⟨G, 1, none⟩) 1048576 1048576) Y HS10.out.jr HS10.out.is HS10.out.ap HS10.out.y HS10.out.yfar (fun _ _ _ => by show (frames (R ++ [Y])).length ≤ 20000000; omega) HS10.out.k.size
  have e1 : (⟨a7, R, false⟩ : JA).append 0 Y = (⟨a7.put 0 (frames R ++ frame Y, (frames R).length), R ++ [Y], false⟩, 0) := by
    have h9 := JA.append_calm (f := 0) HCALM.out (by omega) R Y (by omega) (by rw [HUSED.out, HROOM.out]; omega)
    rw [HFILE.out] at h9
    exact h9
  rw [e1] at hap
  clear hYl hlf hfS
  refine hap.mono ?_
  rintro e w11 ⟨rfl, ht⟩
  obtain ⟨fs11, rv11, ev11, us11, hs11⟩ := HS10.out.turn ht
  have HS11 := Lib.hid hs11
  have HCALM11 : Hid (Calm (a7.put 0 (frames R ++ frame Y, (frames R).length))) := Lib.hid (HCALM.out.put _)
  have HFILE11 : Hid (((a7.put 0 (frames R ++ frame Y, (frames R).length)).file 0).1 = frames (R ++ [Y])) := Lib.hid (by rw [HCALM.out.file_put (by omega), frames_snoc])
  have HUSED11 : Hid ((a7.put 0 (frames R ++ frame Y, (frames R).length)).used = (frames R).length + (frame Y).length) := Lib.hid (by
    have h9 := HCALM.out.used_put (f := 0) (by omega) (frames R ++ frame Y, (frames R).length)
    rw [HFILE.out, HUSED.out] at h9
    simp only [List.length_append] at h9
    omega)
  have HROOM11 : Hid ((a7.put 0 (frames R ++ frame Y, (frames R).length)).room = 16777216) := Lib.hid HROOM.out
  generalize a7.put 0 (frames R ++ frame Y, (frames R).length) = a11 at HS11 HCALM11 HFILE11 HUSED11 HROOM11
  clear ht hs11 hap e1 HS10 HCALM HFILE HUSED HROOM
  go_wp2_with fail
  have htr := jtrunc_any (⟨a11, R ++ [Y], false⟩ : JA) (R.length : Nat) HS11.out.jr HS11.out.is HS11.out.ap
  have e1 : (⟨a11, R ++ [Y], false⟩ : JA).trunc 0 (R.length : Nat) = (⟨a11.put 0 (frames R, (frames R).length), R, false⟩, 0) := by
    have h9 := JA.trunc_calm (f := 0) HCALM11.out (by omega) (R ++ [Y]) R.length (by simp) HFILE11.out
    rw [List.take_left] at h9
    exact h9
  rw [e1] at htr
  refine htr.mono ?_
  rintro e w12 ⟨rfl, ht⟩
  obtain ⟨fs12, rv12, ev12, us12, hs12⟩ := HS11.out.turn ht
  have HS12 := Lib.hid hs12
  have HCALM12 : Hid (Calm (a11.put 0 (frames R, (frames R).length))) := Lib.hid (HCALM11.out.put _)
  have HUSED12 : Hid ((a11.put 0 (frames R, (frames R).length)).used = (frames R).length) := Lib.hid (by
    have h9 := HCALM11.out.used_put (f := 0) (by omega) (frames R, (frames R).length)
    rw [HFILE11.out, HUSED11.out, HFS.out] at h9
    simp only at h9
    omega)
  have HROOM12 : Hid ((a11.put 0 (frames R, (frames R).length)).room = 16777216) := Lib.hid HROOM11.out
  generalize a11.put 0 (frames R, (frames R).length) = a12 at HS12 HCALM12 HUSED12 HROOM12
  clear ht hs12 htr e1 HS11 HCALM11 HFILE11 HUSED11 HROOM11 HFS
  go_wp2_with fail
  refine (records_any HS12.out.jr).mono ?_
  rintro e w13 ⟨A13, cap13, vs13, rfl, hls13, hk13⟩
  have HL13 := Lib.hid hls13.r
  have HS13 := Lib.hid (HS12.out.kept0 hk13)
  clear hls13 hk13 HS12
  go_wp2_with fail
  refine (same_j _ _ vs13 _ R R w13 HL13.out (HLS.out.kept0 HS13.out.k) (by omega) (by omega)).mono ?_
  rw [decide_eq_true (Eq.refl R)]
  rintro e w14 ⟨rfl, hk14⟩
  have HS14 := Lib.hid (HS13.out.kept0 hk14)
  clear hk14 HS13 HL13
  by_cases hn : n < 0 ∨ (R.length : Int) < n
  · have HN := Lib.hid hn
    have e1 : (⟨a12, R, false⟩ : JA).trunc 0 n = (⟨a12, R, false⟩, 1) := by
      simp only [JA.trunc, Bool.false_eq_true, if_false]
      rw [if_pos HN.out]
    have HE1 := Lib.hid e1
    clear e1
    rcases hn with hn | hn
    · go_wp2_with fail
      have htr := jtrunc_any (⟨a12, R, false⟩ : JA) n HS14.out.jr HS14.out.is HS14.out.ap
      rw [HE1.out] at htr
      refine htr.mono ?_
      rintro e w15 ⟨rfl, ht⟩
      obtain ⟨fs15, rv15, ev15, us15, hs15⟩ := HS14.out.turn ht
      have HS15 := Lib.hid hs15
      clear ht hs15 htr HS14
      go_wp2_with fail
      refine (jlen_any HS15.out.jr).mono ?_
      rintro e w16 ⟨rfl, rfl⟩
      clear hn
      have HS14 := HS15
      clear HS15
      go_wp2_with fail
      refine (fail_any 1 (by omega) HS14.out.is).mono ?_
      rintro e w17 ⟨rfl, ht⟩
      obtain ⟨fs17, hs17⟩ := HS14.out.dturn ht
      have HS17 := Lib.hid hs17
      clear ht hs17 HS14
      have hkd : 1 ≤ 1 + lg % 4 ∧ 1 + lg % 4 ≤ 4 := by omega
      generalize hKD : 1 + lg % 4 = kd at hkd
      go_wp2_with fail
      obtain ⟨a18, he18⟩ := play_dead (R := R) HCALM12.out (by rw [HUSED12.out, HROOM12.out]; omega) kd hkd.1 hkd.2
      have hf1 : (frame []).length = 1 := by decide
      have hf0 : (frames (R ++ [[]])).length ≤ 20000000 := by rw [frames_snoc, List.length_append]; omega
      have hpl := jplay_any (⟨a12.fail 1, R, false⟩ : JA) kd 0 none 0 [] none 0 [] [] none 0 0 HS17.out.jr HS17.out.is HS17.out.ap (fun w' _ => nil_bs w') (fun w' _ => ⟨⟨none, 0, rfl, by simp, rfl, fun _ => ⟨rfl, rfl⟩, (fun ad h => by cases h)⟩, fun i x b hx => by simp at hx⟩) (fun _ _ _ => hf0) (by decide) (fun _ => by decide) HS17.out.k.size (fun b hb => by simp at hb)
      rw [he18] at hpl
      refine hpl.mono ?_
      rintro e w18 ⟨rfl, ht⟩
      obtain ⟨fs18, rv18, ev18, us18, hs18⟩ := HS17.out.turn ht
      have HS18 := Lib.hid hs18
      clear ht hs18 hpl he18 hf0 hf1 HS17 HCALM12 HUSED12 HROOM12 hKD hkd
      go_wp2_with fail
      refine (records_any HS18.out.jr).mono ?_
      rintro e w19 ⟨A19, cap19, vs19, rfl, hls19, hk19⟩
      have HL19 := Lib.hid hls19.r
      have HS19 := Lib.hid (HS18.out.kept0 hk19)
      clear hls19 hk19 HS18
      go_wp2_with fail
      refine (same_j _ _ vs19 _ R R w19 HL19.out (HLS.out.kept0 HS19.out.k) (by omega) (by omega)).mono ?_
      rw [decide_eq_true (Eq.refl R)]
      rintro e w20 ⟨rfl, hk20⟩
      have HS20 := Lib.hid (HS19.out.kept0 hk20)
      clear hk20 HS19 HL19
      go_wp2_with fail
      have hap := jappend_any (⟨a18, R, true⟩ : JA) (.slice none 0 0) [] HS20.out.jr HS20.out.is HS20.out.ap (nil_bs w20) (fun w' _ => nil_bs w') (fun h => by cases h) HS20.out.k.size
      rw [show (⟨a18, R, true⟩ : JA).append 0 [] = (⟨a18, R, true⟩, 220) from rfl] at hap
      refine hap.mono ?_
      rintro e w21 ⟨rfl, ht⟩
      obtain ⟨fs21, rv21, ev21, us21, hs21⟩ := HS20.out.turn ht
      have HS21 := Lib.hid hs21
      clear ht hs21 hap HS20
      go_wp2_with fail
      have hsy := jsync_any (⟨a18, R, true⟩ : JA) HS21.out.jr HS21.out.is HS21.out.ap
      rw [show (⟨a18, R, true⟩ : JA).sync 0 = (⟨a18, R, true⟩, 220) from rfl] at hsy
      refine hsy.mono ?_
      rintro e w22 ⟨rfl, ht⟩
      obtain ⟨fs22, rv22, ev22, us22, hs22⟩ := HS21.out.turn ht
      have HS22 := Lib.hid hs22
      clear ht hs22 hsy HS21
      go_wp2_with fail
      have htr := jtrunc_any (⟨a18, R, true⟩ : JA) (-1) HS22.out.jr HS22.out.is HS22.out.ap
      rw [show (⟨a18, R, true⟩ : JA).trunc 0 (-1) = (⟨a18, R, true⟩, 220) from rfl] at htr
      refine htr.mono ?_
      rintro e w23 ⟨rfl, ht⟩
      obtain ⟨fs23, rv23, ev23, us23, hs23⟩ := HS22.out.turn ht
      have HS23 := Lib.hid hs23
      clear ht hs23 htr HS22
      go_wp2_with fail
      have HL23 := Lib.hid (lsr_one w23 30 HS23.out.z)
      have HSA := Lib.hid (HS23.out.kept0 ((Kept.refl Kno w23).alloc (.cells #[.slice (some ⟨G, 0, none⟩) 1048577 1048577] 30)))
      have hrw := jrewrite_any (⟨a18, R, true⟩ : JA) _ _ _ HSA.out.jr HSA.out.is HSA.out.ap HL23.out (HS23.out.lfar HL23.out rfl (fun u hu => by rw [List.mem_singleton.1 hu]; exact .inr rfl)) (by simp) (fun h9 => by simp [HZ.out] at h9) HSA.out.k.size (fun b hb => by rw [List.mem_singleton.1 hb, HZ.out]; simp [maxLen])
      rw [show (⟨a18, R, true⟩ : JA).rewrite 0 [Z] = (⟨a18, R, true⟩, 220) from rfl] at hrw
      refine hrw.mono ?_
      rintro e w24 ⟨rfl, ht⟩
      obtain ⟨fs24, rv24, ev24, us24, hs24⟩ := HSA.out.turn ht
      have HS24 := Lib.hid hs24
      clear ht hs24 hrw HS23 HSA HL23
      go_wp2_with fail
      refine (begun_j _).mono ?_
      rintro e w25 ⟨rfl, hk25⟩
      go_wp2
      go_ret
      exact ⟨rfl, (HK1.out.then0 HS24.out.k).then0 hk25⟩
    · have hn2 : ¬ n < 0 := by omega
      go_wp2_with fail
      have htr := jtrunc_any (⟨a12, R, false⟩ : JA) n HS14.out.jr HS14.out.is HS14.out.ap
      rw [HE1.out] at htr
      refine htr.mono ?_
      rintro e w15 ⟨rfl, ht⟩
      obtain ⟨fs15, rv15, ev15, us15, hs15⟩ := HS14.out.turn ht
      have HS15 := Lib.hid hs15
      clear ht hs15 htr HS14
      go_wp2_with fail
      refine (jlen_any HS15.out.jr).mono ?_
      rintro e w16 ⟨rfl, rfl⟩
      clear hn
      have HS14 := HS15
      clear HS15
      go_wp2_with fail
      refine (fail_any 1 (by omega) HS14.out.is).mono ?_
      rintro e w17 ⟨rfl, ht⟩
      obtain ⟨fs17, hs17⟩ := HS14.out.dturn ht
      have HS17 := Lib.hid hs17
      clear ht hs17 HS14
      have hkd : 1 ≤ 1 + lg % 4 ∧ 1 + lg % 4 ≤ 4 := by omega
      generalize hKD : 1 + lg % 4 = kd at hkd
      go_wp2_with fail
      obtain ⟨a18, he18⟩ := play_dead (R := R) HCALM12.out (by rw [HUSED12.out, HROOM12.out]; omega) kd hkd.1 hkd.2
      have hf1 : (frame []).length = 1 := by decide
      have hf0 : (frames (R ++ [[]])).length ≤ 20000000 := by rw [frames_snoc, List.length_append]; omega
      have hpl := jplay_any (⟨a12.fail 1, R, false⟩ : JA) kd 0 none 0 [] none 0 [] [] none 0 0 HS17.out.jr HS17.out.is HS17.out.ap (fun w' _ => nil_bs w') (fun w' _ => ⟨⟨none, 0, rfl, by simp, rfl, fun _ => ⟨rfl, rfl⟩, (fun ad h => by cases h)⟩, fun i x b hx => by simp at hx⟩) (fun _ _ _ => hf0) (by decide) (fun _ => by decide) HS17.out.k.size (fun b hb => by simp at hb)
      rw [he18] at hpl
      refine hpl.mono ?_
      rintro e w18 ⟨rfl, ht⟩
      obtain ⟨fs18, rv18, ev18, us18, hs18⟩ := HS17.out.turn ht
      have HS18 := Lib.hid hs18
      clear ht hs18 hpl he18 hf0 hf1 HS17 HCALM12 HUSED12 HROOM12 hKD hkd
      go_wp2_with fail
      refine (records_any HS18.out.jr).mono ?_
      rintro e w19 ⟨A19, cap19, vs19, rfl, hls19, hk19⟩
      have HL19 := Lib.hid hls19.r
      have HS19 := Lib.hid (HS18.out.kept0 hk19)
      clear hls19 hk19 HS18
      go_wp2_with fail
      refine (same_j _ _ vs19 _ R R w19 HL19.out (HLS.out.kept0 HS19.out.k) (by omega) (by omega)).mono ?_
      rw [decide_eq_true (Eq.refl R)]
      rintro e w20 ⟨rfl, hk20⟩
      have HS20 := Lib.hid (HS19.out.kept0 hk20)
      clear hk20 HS19 HL19
      go_wp2_with fail
      have hap := jappend_any (⟨a18, R, true⟩ : JA) (.slice none 0 0) [] HS20.out.jr HS20.out.is HS20.out.ap (nil_bs w20) (fun w' _ => nil_bs w') (fun h => by cases h) HS20.out.k.size
      rw [show (⟨a18, R, true⟩ : JA).append 0 [] = (⟨a18, R, true⟩, 220) from rfl] at hap
      refine hap.mono ?_
      rintro e w21 ⟨rfl, ht⟩
      obtain ⟨fs21, rv21, ev21, us21, hs21⟩ := HS20.out.turn ht
      have HS21 := Lib.hid hs21
      clear ht hs21 hap HS20
      go_wp2_with fail
      have hsy := jsync_any (⟨a18, R, true⟩ : JA) HS21.out.jr HS21.out.is HS21.out.ap
      rw [show (⟨a18, R, true⟩ : JA).sync 0 = (⟨a18, R, true⟩, 220) from rfl] at hsy
      refine hsy.mono ?_
      rintro e w22 ⟨rfl, ht⟩
      obtain ⟨fs22, rv22, ev22, us22, hs22⟩ := HS21.out.turn ht
      have HS22 := Lib.hid hs22
      clear ht hs22 hsy HS21
      go_wp2_with fail
      have htr := jtrunc_any (⟨a18, R, true⟩ : JA) (-1) HS22.out.jr HS22.out.is HS22.out.ap
      rw [show (⟨a18, R, true⟩ : JA).trunc 0 (-1) = (⟨a18, R, true⟩, 220) from rfl] at htr
      refine htr.mono ?_
      rintro e w23 ⟨rfl, ht⟩
      obtain ⟨fs23, rv23, ev23, us23, hs23⟩ := HS22.out.turn ht
      have HS23 := Lib.hid hs23
      clear ht hs23 htr HS22
      go_wp2_with fail
      have HL23 := Lib.hid (lsr_one w23 30 HS23.out.z)
      have HSA := Lib.hid (HS23.out.kept0 ((Kept.refl Kno w23).alloc (.cells #[.slice (some ⟨G, 0, none⟩) 1048577 1048577] 30)))
      have hrw := jrewrite_any (⟨a18, R, true⟩ : JA) _ _ _ HSA.out.jr HSA.out.is HSA.out.ap HL23.out (HS23.out.lfar HL23.out rfl (fun u hu => by rw [List.mem_singleton.1 hu]; exact .inr rfl)) (by simp) (fun h9 => by simp [HZ.out] at h9) HSA.out.k.size (fun b hb => by rw [List.mem_singleton.1 hb, HZ.out]; simp [maxLen])
      rw [show (⟨a18, R, true⟩ : JA).rewrite 0 [Z] = (⟨a18, R, true⟩, 220) from rfl] at hrw
      refine hrw.mono ?_
      rintro e w24 ⟨rfl, ht⟩
      obtain ⟨fs24, rv24, ev24, us24, hs24⟩ := HSA.out.turn ht
      have HS24 := Lib.hid hs24
      clear ht hs24 hrw HS23 HSA HL23
      go_wp2_with fail
      refine (begun_j _).mono ?_
      rintro e w25 ⟨rfl, hk25⟩
      go_wp2
      go_ret
      exact ⟨rfl, (HK1.out.then0 HS24.out.k).then0 hk25⟩
  · have hn1 : ¬ n < 0 := by omega
    have hn2 : ¬ (R.length : Int) < n := by omega
    clear hn
    go_wp2_with fail
    refine (fail_any 1 (by omega) HS14.out.is).mono ?_
    rintro e w17 ⟨rfl, ht⟩
    obtain ⟨fs17, hs17⟩ := HS14.out.dturn ht
    have HS17 := Lib.hid hs17
    clear ht hs17 HS14
    have hkd : 1 ≤ 1 + lg % 4 ∧ 1 + lg % 4 ≤ 4 := by omega
    generalize hKD : 1 + lg % 4 = kd at hkd
    go_wp2_with fail
    obtain ⟨a18, he18⟩ := play_dead (R := R) HCALM12.out (by rw [HUSED12.out, HROOM12.out]; omega) kd hkd.1 hkd.2
    have hf1 : (frame []).length = 1 := by decide
    have hf0 : (frames (R ++ [[]])).length ≤ 20000000 := by rw [frames_snoc, List.length_append]; omega
    have hpl := jplay_any (⟨a12.fail 1, R, false⟩ : JA) kd 0 none 0 [] none 0 [] [] none 0 0 HS17.out.jr HS17.out.is HS17.out.ap (fun w' _ => nil_bs w') (fun w' _ => ⟨⟨none, 0, rfl, by simp, rfl, fun _ => ⟨rfl, rfl⟩, (fun ad h => by cases h)⟩, fun i x b hx => by simp at hx⟩) (fun _ _ _ => hf0) (by decide) (fun _ => by decide) HS17.out.k.size (fun b hb => by simp at hb)
    rw [he18] at hpl
    refine hpl.mono ?_
    rintro e w18 ⟨rfl, ht⟩
    obtain ⟨fs18, rv18, ev18, us18, hs18⟩ := HS17.out.turn ht
    have HS18 := Lib.hid hs18
    clear ht hs18 hpl he18 hf0 hf1 HS17 HCALM12 HUSED12 HROOM12 hKD hkd
    go_wp2_with fail
    refine (records_any HS18.out.jr).mono ?_
    rintro e w19 ⟨A19, cap19, vs19, rfl, hls19, hk19⟩
    have HL19 := Lib.hid hls19.r
    have HS19 := Lib.hid (HS18.out.kept0 hk19)
    clear hls19 hk19 HS18
    go_wp2_with fail
    refine (same_j _ _ vs19 _ R R w19 HL19.out (HLS.out.kept0 HS19.out.k) (by omega) (by omega)).mono ?_
    rw [decide_eq_true (Eq.refl R)]
    rintro e w20 ⟨rfl, hk20⟩
    have HS20 := Lib.hid (HS19.out.kept0 hk20)
    clear hk20 HS19 HL19
    go_wp2_with fail
    have hap := jappend_any (⟨a18, R, true⟩ : JA) (.slice none 0 0) [] HS20.out.jr HS20.out.is HS20.out.ap (nil_bs w20) (fun w' _ => nil_bs w') (fun h => by cases h) HS20.out.k.size
    rw [show (⟨a18, R, true⟩ : JA).append 0 [] = (⟨a18, R, true⟩, 220) from rfl] at hap
    refine hap.mono ?_
    rintro e w21 ⟨rfl, ht⟩
    obtain ⟨fs21, rv21, ev21, us21, hs21⟩ := HS20.out.turn ht
    have HS21 := Lib.hid hs21
    clear ht hs21 hap HS20
    go_wp2_with fail
    have hsy := jsync_any (⟨a18, R, true⟩ : JA) HS21.out.jr HS21.out.is HS21.out.ap
    rw [show (⟨a18, R, true⟩ : JA).sync 0 = (⟨a18, R, true⟩, 220) from rfl] at hsy
    refine hsy.mono ?_
    rintro e w22 ⟨rfl, ht⟩
    obtain ⟨fs22, rv22, ev22, us22, hs22⟩ := HS21.out.turn ht
    have HS22 := Lib.hid hs22
    clear ht hs22 hsy HS21
    go_wp2_with fail
    have htr := jtrunc_any (⟨a18, R, true⟩ : JA) (-1) HS22.out.jr HS22.out.is HS22.out.ap
    rw [show (⟨a18, R, true⟩ : JA).trunc 0 (-1) = (⟨a18, R, true⟩, 220) from rfl] at htr
    refine htr.mono ?_
    rintro e w23 ⟨rfl, ht⟩
    obtain ⟨fs23, rv23, ev23, us23, hs23⟩ := HS22.out.turn ht
    have HS23 := Lib.hid hs23
    clear ht hs23 htr HS22
    go_wp2_with fail
    have HL23 := Lib.hid (lsr_one w23 30 HS23.out.z)
    have HSA := Lib.hid (HS23.out.kept0 ((Kept.refl Kno w23).alloc (.cells #[.slice (some ⟨G, 0, none⟩) 1048577 1048577] 30)))
    have hrw := jrewrite_any (⟨a18, R, true⟩ : JA) _ _ _ HSA.out.jr HSA.out.is HSA.out.ap HL23.out (HS23.out.lfar HL23.out rfl (fun u hu => by rw [List.mem_singleton.1 hu]; exact .inr rfl)) (by simp) (fun h9 => by simp [HZ.out] at h9) HSA.out.k.size (fun b hb => by rw [List.mem_singleton.1 hb, HZ.out]; simp [maxLen])
    rw [show (⟨a18, R, true⟩ : JA).rewrite 0 [Z] = (⟨a18, R, true⟩, 220) from rfl] at hrw
    refine hrw.mono ?_
    rintro e w24 ⟨rfl, ht⟩
    obtain ⟨fs24, rv24, ev24, us24, hs24⟩ := HSA.out.turn ht
    have HS24 := Lib.hid hs24
    clear ht hs24 hrw HS23 HSA HL23
    go_wp2_with fail
    refine (begun_j _).mono ?_
    rintro e w25 ⟨rfl, hk25⟩
    go_wp2
    go_ret
    exact ⟨rfl, (HK1.out.then0 HS24.out.k).then0 hk25⟩

theorem stops_final (v : Value) (p : List Value × List (List UInt8)) (n lg : Int) (w : World) (hr : LsR w v p.1 p.2 ∧ p.2.length ≤ maxLen ∧ ∀ b ∈ p.2, b.length ≤ maxLen) (h1 : (Lit.int .i64 n).wf = true) (h : (Lit.int .u8 lg).wf = true) :
    Calls Try.prog 8 #[v, .int .i64 n, .int .u8 lg] w (RetNew (.bool true) w) := by
  have hx : 0 ≤ lg ∧ lg ≤ 255 := by simpa [Lit.wf, IntKind.min, IntKind.max, IntKind.signed, IntKind.bits] using h
  exact stops_walk v p n lg w hr hx.1 hx.2

end Go.Proofs.Yteoodgcpkgfomaa
