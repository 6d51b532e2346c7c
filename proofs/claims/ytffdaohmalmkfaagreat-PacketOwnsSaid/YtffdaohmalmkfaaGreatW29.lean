/-
  Contracts and plain laws that the claim's theorem rests on.
-/
import Derived.Test.YtffdaohmalmkfaaGreatW15
import Derived.Test.YtffdaohmalmkfaaGreatW28
import Derived.Laws.CopyRow
set_option linter.unusedSimpArgs false
set_option linter.unusedVariables false
/-
  PacketOwns: a list of anything under way, in a row of one's own. No program in sight, but for the builtin copy.
-/
namespace Go.Proofs.YtffdaohmalmkfaaGreat
open Go.RowKit
set_option linter.unusedVariables false

/-- What an element's cells say stays when what lies below B stays. -/
structure Clo {α : Type} (QF : World → Nat → α → List Value → Prop) : Prop where
  old : ∀ {w w' : World} {B B' : Nat} {x : α} {cs : List Value}, Old B w w' → B ≤ B' → QF w B x cs → QF w' B' x cs
  sub : ∀ {w w' : World} {B : Nat} {x : α} {cs : List Value}, Sub0 w w' → QF w B x cs → QF w' B x cs
theorem clo_row : Clo RowQ := ⟨fun ho hB h => h.old ho hB, fun hc h => h.sub0 hc⟩
theorem clo_rows : Clo RowsQ := ⟨fun ho hB h => h.old ho hB, fun hc h => h.sub0 hc⟩
theorem Clo.keep {α : Type} {QF : World → Nat → α → List Value → Prop} (C : Clo QF) {S : Nat → Bool} {R : Nat → Prop} {w w' : World} {x : α} {cs : List Value} (h : QF (erase S w) w.heap.size x cs) (hk : Kept R w w') (hR : ∀ k, R k → S k = true) : QF (erase S w') w'.heap.size x cs :=
  C.old ((erase_kept hk hR (fun _ _ => rfl)).old (B := w.heap.size) (by rw [erase_size]; exact Nat.le_refl _) (fun _ _ h => h)) hk.size h
theorem Clo.app {α : Type} {QF : World → Nat → α → List Value → Prop} (C : Clo QF) {S : Nat → Bool} {v v' : Value} {w w' : World} {x : α} {cs : List Value} (h : QF (erase (orow S v) w) w.heap.size x cs) (hg : w.grownBy w' v.ownBlock) (hat : v'.ownBlock = v.ownBlock ∨ v'.ownBlock = some w.heap.size) : QF (erase (orow S v') w') w'.heap.size x cs :=
  C.sub (uni_sub _ _ _) (C.old (grown_old hg (fun k hk => orow_own hk) (fun k hk => orow_next hat hk)) hg.size h)
/-- A list under way: its elements are known without S and without the row itself. -/
structure LOut {α : Type} (QF : World → Nat → α → List Value → Prop) (t : TypeId) (sz : Nat) (S : Nat → Bool) (base : Nat) (w : World) (A : Option Addr) (cap : Nat) (qs : List (α × List Value)) : Prop where
  own : OwnL w base t sz (.slice A qs.length cap) qs
  q : ∀ q ∈ qs, QF (erase (orow S (.slice A qs.length cap)) w) w.heap.size q.1 q.2
section
variable {α : Type} {QF : World → Nat → α → List Value → Prop} {t : TypeId} {sz base : Nat} {S : Nat → Bool} {w w' w7 : World} {A A2 : Option Addr} {cap c2 : Nat} {qs : List (α × List Value)} {x : α} {cs : List Value}
theorem LOut.nil : LOut QF t sz S base w none 0 ([] : List (α × List Value)) := ⟨OwnL.nil, by simp⟩
theorem LOut.keep (C : Clo QF) {R : Nat → Prop} (h : LOut QF t sz S base w A cap qs) (hk : Kept R w w') (hR : ∀ k, R k → S k = true) (hb : ∀ k, R k → k < base) : LOut QF t sz S base w' A cap qs :=
  ⟨⟨own_kept h.own.1 hk (fun k e hr => by have := (own_base h.own.1 e).1; have := hb k hr; omega), h.own.2⟩, fun q hq => C.keep (h.q q hq) hk (fun k hr => orow_le (hR k hr))⟩
theorem LOut.keep0 (C : Clo QF) (h : LOut QF t sz S base w A cap qs) (hk : Kept Kno w w') : LOut QF t sz S base w' A cap qs := h.keep C hk (fun _ h => h.elim) (fun _ h => h.elim)
theorem LOut.ge (h : LOut QF t sz S base w A cap qs) {k : Nat} (e : (Value.slice A qs.length cap).ownBlock = some k) : base ≤ k := (own_base h.own.1 e).1
theorem LOut.lt (h : LOut QF t sz S base w A cap qs) {k : Nat} (e : (Value.slice A qs.length cap).ownBlock = some k) : k < w.heap.size := (own_base h.own.1 e).2
theorem LOut.orow_lt (h : LOut QF t sz S base w A cap qs) (hS : ∀ k, S k = true → k < w.heap.size) : ∀ k, orow S (.slice A qs.length cap) k = true → k < w.heap.size := fun k hk => by
  rcases orow_cases hk with e | e
  · exact hS k e
  · exact h.lt e
theorem LOut.push (C : Clo QF) (h : LOut QF t sz S base w A cap qs) (hx : QF (erase (orow S (.slice A qs.length cap)) w) w.heap.size x cs) (hcs : cs.length = sz)
    (hg2 : (w.alloc (.cells cs.toArray t)).grownBy w7 (Value.slice A qs.length cap).ownBlock) (hown2 : w7.ownsRow base t sz (.slice A2 (qs.length + 1) c2) (qs.length + 1) ((qs.map (·.2)).flatten ++ cs))
    (hat2 : (Value.slice A2 (qs.length + 1) c2).ownBlock = (Value.slice A qs.length cap).ownBlock ∨ (Value.slice A2 (qs.length + 1) c2).ownBlock = some (w.alloc (.cells cs.toArray t)).heap.size) : LOut QF t sz S base w7 A2 c2 (qs ++ [(x, cs)]) := by
  have hl : (qs ++ [(x, cs)]).length = qs.length + 1 := by simp
  have hka : Kept Kno w (w.alloc (.cells cs.toArray t)) := (Kept.refl _ _).alloc _
  refine ⟨by rw [hl]; exact OwnL.push h.own.2 hcs hown2, fun q hq => ?_⟩
  rw [hl]
  rcases List.mem_append.1 hq with hq | hq
  · exact C.app (C.keep (h.q q hq) hka (fun _ h => h.elim)) hg2 hat2
  · simp only [List.mem_singleton] at hq
    subst hq
    exact C.app (C.keep hx hka (fun _ h => h.elim)) hg2 hat2
theorem LOut.ly (C : Clo QF) (h : LOut QF t sz S base w A cap qs) (hS : ∀ k, S k = true → k < base) : LyIn w.heap.size (.slice A qs.length cap) qs.length (AtL (erase S w) sz (QF (erase S w) w.heap.size) (qs.map (·.1))) :=
  h.own.ly rfl (fun q hq => C.sub (orow_sub _ _ _) (h.q q hq)) (fun k hk => by
    cases hx : S k with
    | false => rfl
    | true => have := hS k hx; omega)
/-- What was there before the list was begun. -/
theorem LOut.was (C : Clo QF) (h : LOut QF t sz S base w A cap qs) {w0 : World} {R : Nat → Prop} {y : α} {B : Nat} {cs : List Value} (hy : QF (erase S w0) B y cs) (hB : B ≤ w0.heap.size) (hb : w0.heap.size ≤ base) (hk : Kept R w0 w) (hR : ∀ k, R k → S k = true) : QF (erase (orow S (.slice A qs.length cap)) w) w.heap.size y cs :=
  C.old ((erase_kept (S' := orow S (.slice A qs.length cap)) hk hR (fun k hk => orow_old (base := base) (fun k e => h.ge e) (by omega))).old (by rw [erase_size]; exact hB) (fun _ _ h => h)) (Nat.le_trans hB hk.size) hy
end

/-- The builtin copy, elements of three cells. -/
theorem run_copy3 {P : Program} (w : World) (dT sT ty elem : TypeId) (g o dLen dCap : Nat) (a : Addr) (sLen sCap : Nat) (cur : Array Value) (t : TypeId) (cs : List Value)
    (hu : P.underlying dT = some (.slice elem)) (hs : (P.info? elem).map (·.size) = some 3)
    (hg : w.heap[g]? = some (.cells cur t (0, 0))) (hn : cs.length = Nat.min sLen dLen * 3)
    (hsrc : ∀ j v, cs[j]? = some v → w.cell? (a.add j) = some v) (hfit : o + cs.length ≤ cur.size) (h1 : ∀ v ∈ cs, v.oneCell' = true) :
    (Builtin.copy_ #[dT, sT] ty #[.slice (some ⟨g, o, none⟩) dLen dCap, .slice (some a) sLen sCap]).run P w =
      .ok (goInt (Nat.min sLen dLen)) (w.setRow g (cur.toList.take o ++ cs ++ cur.toList.drop (o + cs.length)).toArray) := by
  have hl := run_loadCells_list (P := P) w a cs hsrc
  have hst := run_storeCells_at P g o t cs 0 cur w hg (by simpa using hfit) h1
  cases hq : P.info? elem with
  | none => simp [hq] at hs
  | some i =>
    have hi : i.size = 3 := by simpa [hq] using hs
    simp [Builtin.copy_, run_underlying hu, Builtin.lenOf, Builtin.firstCells, sizeOf, typeInfo, hq, hi, ← hn, hl, hst]

end Go.Proofs.YtffdaohmalmkfaaGreat
/-
  PacketOwns: the reference's Copy of a state.
-/
namespace Go.Proofs.YtffdaohmalmkfaaGreat
open Go.RowKit
set_option linter.unusedVariables false

/-- What Copy returns: a new state. -/
def StCopyOk (S : Nat → Bool) (tabs : List (List (List Val))) (w : World) (e : Ending) (w' : World) : Prop :=
  ∃ T cap, e = .returned (.agg #[.slice (some ⟨T, 0, none⟩) tabs.length cap]) ∧ w.heap.size ≤ T ∧ StAt (more S T) w' T tabs.length cap tabs ∧ Kept Kno w w'
theorem LOut.st {S : Nat → Bool} {R2 R3 base : Nat} {w : World} {A : Option Addr} {c : Nat} {qs : List (List (List Val) × List Value)} {tabs : List (List (List Val))} (h : LOut RowsQ 171 1 (more (more S R2) R3) base w A c qs) (hq : qs.map (·.1) = tabs) (h0 : 0 < tabs.length) :
    ∃ T, A = some ⟨T, 0, none⟩ ∧ base ≤ T ∧ StAt (more S T) w T tabs.length c tabs := by
  have hl : qs.length = tabs.length := by rw [← hq, List.length_map]
  rcases h.own.1.2 with ⟨he, hz⟩ | ⟨g, cap', cur, he, hbg, hblk, hle, hmax, hsz, htake⟩
  · omega
  · simp only [Value.slice.injEq] at he
    obtain ⟨rfl, -, rfl⟩ := he
    refine ⟨g, rfl, hbg, cur, hblk, rfl, h0, by rw [← hl]; exact hle, hmax, more_self _ _, fun i rows hi => ?_⟩
    rw [← hq, List.getElem?_map] at hi
    obtain ⟨q, hqi, rfl⟩ := Option.map_eq_some_iff.1 hi
    obtain ⟨s, hs, hr⟩ := h.q q (List.mem_of_getElem? hqi)
    have hc := h.own.cells hqi 0 s (by rw [hs]; rfl)
    rw [Blk.cell hblk, Nat.mul_one, Nat.add_zero] at hc
    refine ⟨s, hc, RowsIn.sub0 (sub_le (fun k hk => ?_) w) hr⟩
    rcases (by simpa [more] using hk : S k = true ∨ k = g) with e | e
    · exact orow_le (more_le (more_le e))
    · subst e; exact orow_own rfl

def CopyRel (S : Nat → Bool) (R base : Nat) (tabs : List (List (List Val))) (w : World) (i : Value) (wr : World) : Prop :=
  ∃ (j : Nat) (A : Option Addr) (c : Nat) (qs : List (List (List Val) × List Value)), j ≤ tabs.length ∧ i = .int .i64 j ∧ qs.map (·.1) = tabs.take j ∧ Blk wr (R + 1 + 1) 100 #[.slice A qs.length c] ∧ Blk wr (R + 1) 100 #[.slice none 0 0] ∧ LOut RowsQ 171 1 (more (more S (R + 1)) (R + 1 + 1)) base wr A c qs ∧ Kept Kno w wr
def CopyRel2 (S : Nat → Bool) (rows : List (List Val)) (w1 : World) (x i : Value) (wr : World) : Prop :=
  ∃ (k : Nat) (A : Option Addr) (c : Nat) (ps : List (List Val × List Value)), k ≤ rows.length ∧ i = .int .i64 k ∧ x = .slice A ps.length c ∧ ps.map (·.1) = rows.take k ∧ LOut RowQ 30 1 S w1.heap.size wr A c ps ∧ Kept Kno w1 wr

set_option maxRecDepth 100000 in
set_option maxHeartbeats 3000000 in
theorem stcopy_any (S : Nat → Bool) (B : Nat) (sv : Value) (tabs : List (List (List Val))) (w : World) (h : StR w B sv tabs) (hB : B ≤ w.heap.size) (hlen : tabs.length ≤ 1000) (h0 : 0 < tabs.length) (hl : ∀ rows ∈ tabs, rows.length ≤ 1000 ∧ ∀ r ∈ rows, r.length ≤ 1000) (hS : ∀ k, S k = true → k < w.heap.size) :
    Calls Tryz.prog 125 #[sv] w (StCopyOk S tabs w) := by
  obtain ⟨i0, hi, hz0, hz1, hz2⟩ := info_parts info_rowp
  obtain ⟨i1, hi1, hy0, hy1, hy2⟩ := info_parts info_rowsp
  obtain ⟨s0, rfl, A0, scap, rfl, hsc, hsm, -, -, hat⟩ := h
  obtain ⟨g, o, rfl, hgB, hat⟩ := hat h0
  have HAT := Lib.hid hat
  have HL := Lib.hid hl
  have hsm' : scap ≤ 9223372036854775807 := by simpa only [maxLen] using hsm
  clear hat hl hsm
  go_enter Tryz.func125, Tryz.ntmps125
  go_upto_region 2 with (fail)
  obtain ⟨w0, h0e⟩ : ∃ w0, (((w.alloc (.cells #[.slice (some ⟨g, o, none⟩) tabs.length scap] 100)).alloc (.cells #[.slice none 0 0] 100)).alloc (.cells #[.slice none 0 0] 100)) = w0 := ⟨_, rfl⟩
  have hk0 : Kept Kno w w0 := by rw [← h0e]; exact (((Kept.refl _ _).alloc _).alloc _).alloc _
  have hz : w0.heap.size = w.heap.size + 3 := by rw [← h0e]; simp
  have HB1 : Hid (Blk w0 w.heap.size 100 #[.slice (some ⟨g, o, none⟩) tabs.length scap]) := Lib.hid (by rw [← h0e]; exact ((Blk.new _ _ _).alloc _).alloc _)
  have HB2 : Hid (Blk w0 (w.heap.size + 1) 100 #[.slice none 0 0]) := Lib.hid (by rw [← h0e]; have := (Blk.new (w.alloc (.cells #[.slice (some ⟨g, o, none⟩) tabs.length scap] 100)) 100 #[.slice none 0 0]).alloc (.cells #[.slice none 0 0] 100); simpa using this)
  have HB3 : Hid (Blk w0 (w.heap.size + 1 + 1) 100 #[.slice none 0 0]) := Lib.hid (by rw [← h0e]; have := Blk.new ((w.alloc (.cells #[.slice (some ⟨g, o, none⟩) tabs.length scap] 100)).alloc (.cells #[.slice none 0 0] 100)) 100 #[.slice none 0 0]; simpa using this)
  have HK0 := Lib.hid hk0
  rw [h0e]
  clear h0e hk0
  have b1 : w0.cell? ⟨w.heap.size, 0, none⟩ = some (.slice (some ⟨g, o, none⟩) tabs.length scap) := HB1.out.cell 0
  go_upto_region 3 with (fail)
  clear b1
  have HZ := Lib.hid hz
  have hz3 : w.heap.size + 1 + 1 < w0.heap.size := by omega
  clear hz
  have HSL : Hid (∀ k, more (more S (w.heap.size + 1)) (w.heap.size + 1 + 1) k = true → k < w0.heap.size) := Lib.hid (fun k hk => by
    cases hs : S k with
    | true => have := hS k hs; omega
    | false =>
      have : k = w.heap.size + 1 ∨ k = w.heap.size + 1 + 1 := by simpa [more, hs] using hk
      omega)
  go_loopw [12] (fun i wr => CopyRel S w.heap.size w0.heap.size tabs w i wr) (fun i _ => tabs.length - (intOf i).toNat)
  case atStart => exact ⟨0, none, 0, [], Nat.zero_le _, rfl, by simp, HB3.out, HB2.out, LOut.nil, HK0.out⟩
  case round =>
    obtain ⟨w1, rfl⟩ : ∃ x, x = wr := ⟨wr, rfl⟩
    obtain ⟨j, A, c, qs, hj, rfl, hqs, hb3, hb2, hlo, hkw⟩ := hrel
    have HQS := Lib.hid hqs
    have HB3' := Lib.hid hb3
    have HB2' := Lib.hid hb2
    have HLO := Lib.hid hlo
    have HKW := Lib.hid hkw
    have hj0 : (0 : Int) ≤ (j : Int) := by omega
    have hql : qs.length ≤ 1000 := by have := congrArg List.length hqs; rw [List.length_map, List.length_take] at this; omega
    have hzr : w0.heap.size ≤ w1.heap.size := by
      have h1 := (HB3'.out.lt)
      have := HZ.out
      omega
    clear hqs hb3 hb2 hlo hkw
    by_cases hlt : j < tabs.length
    · have hltI : (j : Int) < (tabs.length : Int) := by omega
      obtain ⟨rows, hr⟩ : ∃ rows, tabs[j]? = some rows := ⟨_, List.getElem?_eq_getElem hlt⟩
      obtain ⟨cs, -, ⟨s, rfl, hrows⟩, hcc⟩ := HAT.out j rows hr
      have cr : w1.cell? ⟨g, o + j, none⟩ = some s := by
        have h1 := hcc 0 s rfl
        rw [Nat.mul_one, Nat.add_zero] at h1
        exact HKW.out.cell_some h1 (fun h => h)
      obtain ⟨rA, rcap, rfl, hrc, hrm, -, -, hrat⟩ := hrows
      have HRAT := Lib.hid hrat
      have hrm' : rcap ≤ 9223372036854775807 := by simpa only [maxLen] using hrm
      have hrl := (HL.out rows (List.mem_of_getElem? hr)).1
      have HRL := Lib.hid (HL.out rows (List.mem_of_getElem? hr)).2
      have HR := Lib.hid hr
      clear hcc hrat hrm hr
      go_upto_region 7 with (fail)
      clear cr
      go_loopw [6, 18] (fun x i wi => CopyRel2 (orow (more (more S (w.heap.size + 1)) (w.heap.size + 1 + 1)) (.slice A qs.length c)) rows w1 x i wi) (fun _ i _ => rows.length - (intOf i).toNat)
      case atStart => exact ⟨0, none, 0, [], Nat.zero_le _, rfl, rfl, by simp, LOut.nil, Kept.refl _ _⟩
      case round =>
        obtain ⟨k, A2, c2, ps, hk, rfl, rfl, hps, hlo2, hk2⟩ := hrel
        have HPS := Lib.hid hps
        have HLO2 := Lib.hid hlo2
        have HK2 := Lib.hid hk2
        have hk0 : (0 : Int) ≤ (k : Int) := by omega
        have hpl : ps.length ≤ 1000 := by have := congrArg List.length hps; rw [List.length_map, List.length_take] at this; omega
        have hzi : w1.heap.size ≤ wr.heap.size := hk2.size
        clear hps hlo2 hk2
        by_cases hlt2 : k < rows.length
        · have hltI2 : (k : Int) < (rows.length : Int) := by omega
          obtain ⟨gr, og, rfl, -, hrat⟩ := HRAT.out (by omega)
          obtain ⟨r, hr⟩ : ∃ r, rows[k]? = some r := ⟨_, List.getElem?_eq_getElem hlt2⟩
          obtain ⟨cs, -, ⟨rs, rfl, hrs⟩, hcc⟩ := hrat k r hr
          have hkw : Kept Kno w wr := HKW.out.then0 HK2.out
          have cr : wr.cell? ⟨gr, og + k, none⟩ = some rs := by
            have h1 := hcc 0 rs rfl
            rw [Nat.mul_one, Nat.add_zero] at h1
            exact hkw.cell_some h1 (fun h => h)
          have HRS : Hid (RIn wr B rs r) := Lib.hid (SlIn.old hrs (hkw.old hB (fun _ _ h => h)) (Nat.le_refl _))
          have hr1000 := HRL.out r (List.mem_of_getElem? hr)
          have HRK := Lib.hid hr
          obtain ⟨rA2, rc2, rfl⟩ : ∃ A c, rs = .slice A r.length c := SlIn.form hrs
          have m1 : ps.length + 1 ≤ maxLen := by simp only [maxLen]; omega
          clear hrat hr hcc hrs
          go_wp2_with fail
          refine (rcopy_any B _ r wr HRS.out hr1000).mono ?_
          rintro e w5 ⟨A5, c5, rfl, ho5, hk5⟩
          have HLO5 := Lib.hid (HLO2.out.keep0 clo_row hk5)
          have HK5 := Lib.hid (HK2.out.then0 hk5)
          have HX5 : Hid (RowQ (erase (orow (orow (more (more S (w.heap.size + 1)) (w.heap.size + 1 + 1)) (.slice A qs.length c)) (.slice A2 ps.length c2)) w5) w5.heap.size r [.slice A5 r.length c5]) := Lib.hid ⟨_, rfl, ho5.rinS rfl (fun k hk => by
            cases hx : orow (orow (more (more S (w.heap.size + 1)) (w.heap.size + 1 + 1)) (.slice A qs.length c)) (.slice A2 ps.length c2) k with
            | false => rfl
            | true =>
              have := HLO2.out.orow_lt (fun k hk => Nat.lt_of_lt_of_le (HLO.out.orow_lt (fun k hk => Nat.lt_of_lt_of_le (HSL.out k hk) hzr) k hk) hzi) k hx
              omega)⟩
          have hz5 : w1.heap.size ≤ w5.heap.size := HK5.out.size
          clear ho5 hk5 HRS cr HLO2 HK2
          go_wp2_with (at_builtin; go_must (refine wpList_append_rd _ rfl _ _ 171 rfl w1.heap.size 30 i0 _ 1 24 Tryz.underlying171 hi hz0 hz1 hz2 rfl (by decide) (.slice A2 ps.length c2) ps.length (ps.map (·.2)).flatten rfl (World.ownsRow.alloc HLO5.out.own.1 _) _ 1 [.slice A5 r.length c5] rfl (Rd.one' _ _ _ rfl (by simp)) (by simp [Value.oneCell']) m1 (by omega) (by simp; omega) ?_); intro A6 c6 w6 hown2 hg2 hat2)
          have hl6 := LOut.push clo_row HLO5.out HX5.out rfl hg2 hown2 hat2
          refine ⟨⟨k + 1, A6, c6, _, hlt2, by go_num, by simp, ?_, hl6, (HK5.out.alloc _).grown hg2 (fun k hk e => by have := HLO5.out.ge e; omega)⟩, ?_⟩
          · rw [List.map_append, HPS.out, List.take_add_one, HRK.out]
            rfl
          · simp [intOf]
            omega
        · have hltI2 : ¬ (k : Int) < (rows.length : Int) := by omega
          have hpr : ps.map (·.1) = rows := by rw [HPS.out, List.take_of_length_le (by omega)]
          have HPR := Lib.hid hpr
          have hrI : Hid (RowsQ (erase (orow (more (more S (w.heap.size + 1)) (w.heap.size + 1 + 1)) (.slice A qs.length c)) wr) wr.heap.size rows [.slice A2 ps.length c2]) := by
            have h1 := HLO2.out.ly clo_row (fun k hk => HLO.out.orow_lt (fun k hk => Nat.lt_of_lt_of_le (HSL.out k hk) hzr) k hk)
            rw [hpr] at h1
            refine Lib.hid ⟨_, rfl, ?_⟩
            unfold RowsIn
            rw [show rows.length = ps.length by rw [← hpr, List.length_map]]
            exact h1
          have HLR := Lib.hid (HLO.out.keep0 clo_rows HK2.out)
          have hb3 : Blk wr (w.heap.size + 1 + 1) 100 #[.slice A qs.length c] := HB3'.out.kept HK2.out (fun h => h)
          have HB3R := Lib.hid hb3
          have HB2R : Hid (Blk wr (w.heap.size + 1) 100 #[.slice none 0 0]) := Lib.hid (HB2'.out.kept HK2.out (fun h => h))
          have HKR := Lib.hid (HKW.out.then0 HK2.out)
          have b3 : wr.cell? ⟨w.heap.size + 1 + 1, 0, none⟩ = some (.slice A qs.length c) := hb3.cell 0
          have m1 : qs.length + 1 ≤ maxLen := by simp only [maxLen]; omega
          have hne : (Value.slice A qs.length c).ownBlock ≠ some (w.heap.size + 1 + 1) := fun e => by have := HLR.out.ge e; omega
          have HNE := Lib.hid hne
          clear hpr hb3 HLO HB3' HB2' HKW HLO2 HRAT hne
          go_wp2_with (at_builtin; go_must (refine wpList_append_rd _ rfl _ _ 98 rfl w0.heap.size 171 i1 _ 1 24 Tryz.underlying98 hi1 hy0 hy1 hy2 rfl (by decide) (.slice A qs.length c) qs.length (qs.map (·.2)).flatten rfl (World.ownsRow.alloc HLR.out.own.1 _) _ 1 [.slice A2 ps.length c2] rfl (Rd.one' _ _ _ rfl (by simp)) (by simp [Value.oneCell']) m1 (by omega) (by simp; omega) ?_); intro A6 c6 w6 hown2 hg2 hat2; have hb6 : Blk w6 (w.heap.size + 1 + 1) 100 #[.slice A qs.length c] := (HB3R.out.alloc _).grown hg2 (fun e => HNE.out e.symm); have b6 : w6.cell? ⟨w.heap.size + 1 + 1, 0, none⟩ = some (.slice A qs.length c) := hb6.cell 0; have f6 := hb6.frozen 0)
          have hl6 := LOut.push clo_rows HLR.out hrI.out rfl hg2 hown2 hat2
          have hne2 : (Value.slice A qs.length c).ownBlock ≠ some (w.heap.size + 1) := fun e => by have := HLR.out.ge e; omega
          have hb62 : Blk w6 (w.heap.size + 1) 100 #[.slice none 0 0] := (HB2R.out.alloc _).grown hg2 (fun e => hne2 e.symm)
          have hk6 : Kept Kno w w6 := (HKR.out.alloc _).grown hg2 (fun k hk e => by have := HLR.out.ge e; omega)
          have hkS : Kept (Kone (w.heap.size + 1 + 1)) w6 (w6.setCell ⟨w.heap.size + 1 + 1, 0, none⟩ (.slice A6 (qs.length + 1) c6)) := (Kept.refl _ _).setIn (p := ⟨w.heap.size + 1 + 1, 0, none⟩) (by unfold Kone; rfl) _
          refine ⟨⟨j + 1, A6, c6, qs ++ [(rows, [.slice A2 ps.length c2])], hlt, by go_num, ?_, ?_, hb62.kept hkS (fun e => by unfold Kone at e; omega), hl6.keep clo_rows hkS (fun k hk => by unfold Kone at hk; subst hk; exact more_self _ _) (fun k hk => by unfold Kone at hk; omega), hk6.setNew (by show w.heap.size ≤ w.heap.size + 1 + 1; omega) _⟩, ?_⟩
          · rw [List.map_append, HQS.out, List.take_add_one, HR.out]
            rfl
          · rw [show (qs ++ [(rows, [Value.slice A2 ps.length c2])]).length = qs.length + 1 by simp]
            exact hb6.set_ 0 _
          · simp [intOf]
            omega
    · have hltI : ¬ (j : Int) < (tabs.length : Int) := by omega
      have b3 : w1.cell? ⟨w.heap.size + 1 + 1, 0, none⟩ = some (.slice A qs.length c) := HB3'.out.cell 0
      have b2 : w1.cell? ⟨w.heap.size + 1, 0, none⟩ = some (.slice none 0 0) := HB2'.out.cell 0
      have f2 := HB2'.out.frozen 0
      have hqt : qs.map (·.1) = tabs := by rw [HQS.out, List.take_of_length_le (by omega)]
      have hql2 : qs.length = tabs.length := by rw [← hqt, List.length_map]
      have HQL := Lib.hid hql2
      have HQT := Lib.hid hqt
      clear hql2 hqt
      have HLE := Lib.hid (HLO.out.keep clo_rows (w' := w1.setCell ⟨w.heap.size + 1, 0, none⟩ (.slice A qs.length c)) (R := Kone (w.heap.size + 1)) ((Kept.refl _ _).setIn (p := ⟨w.heap.size + 1, 0, none⟩) (by unfold Kone; rfl) _) (fun k hk => by unfold Kone at hk; subst hk; exact more_le (more_self _ _)) (fun k hk => by unfold Kone at hk; omega))
      go_wp2_with fail
      obtain ⟨T, rfl, hT, hst⟩ := LOut.st HLE.out HQT.out h0
      have hq2 := HQL.out
      rw [hq2]
      refine bodyPost_ret (v := .agg #[.slice (some ⟨T, 0, none⟩) tabs.length c]) ?_ rfl ⟨T, c, rfl, by omega, by rw [hq2] at hst; exact hst, HKW.out.setNew (by show w.heap.size ≤ w.heap.size + 1; omega) _⟩
      have hb := HB2'.out.set_ 0 (.slice (some ⟨T, 0, none⟩) tabs.length c)
      exact results_cell_row rfl _ _ (w.heap.size + 1) 100 _ (0, 0) _ rfl hb Tryz.underlying100 rfl (by kernel_rfl)

end Go.Proofs.YtffdaohmalmkfaaGreat
/-
  PacketOwns: the reference's find and Get.
-/
namespace Go.Proofs.YtffdaohmalmkfaaGreat
open Go.RowKit
set_option linter.unusedVariables false

def FindOk (n : Nat) (w : World) (e : Ending) (w' : World) : Prop := ∃ k : Int, e = .returned (.int .i64 k) ∧ (k = -1 ∨ 0 ≤ k ∧ k < n) ∧ Kept Kno w w'
theorem StR.row {w : World} {B : Nat} {v : Value} {tabs : List (List (List Val))} (h : StR w B v tabs) {j : Nat} {rows : List (List Val)} (hj : tabs[j]? = some rows) :
    ∃ g o cap s, v = .agg #[.slice (some ⟨g, o, none⟩) tabs.length cap] ∧ tabs.length ≤ cap ∧ cap ≤ maxLen ∧ g < B ∧ w.cell? ⟨g, o + j, none⟩ = some s ∧ RowsIn w B s rows := by
  obtain ⟨s, rfl, A, cap, rfl, h3, h4, -, -, h5⟩ := h
  obtain ⟨hlt, -⟩ := List.getElem?_eq_some_iff.1 hj
  obtain ⟨g, o, rfl, hg, hc⟩ := h5 (by omega)
  obtain ⟨cs, -, ⟨s, rfl, hr⟩, hcc⟩ := hc j rows hj
  have h1 := hcc 0 s rfl
  rw [Nat.mul_one, Nat.add_zero] at h1
  exact ⟨g, o, cap, s, rfl, h3, h4, hg, h1, hr⟩
theorem RowsIn.row {w : World} {B : Nat} {s : Value} {rows : List (List Val)} (h : RowsIn w B s rows) {j : Nat} {r : List Val} (hj : rows[j]? = some r) :
    ∃ g o cap rs, s = .slice (some ⟨g, o, none⟩) rows.length cap ∧ rows.length ≤ cap ∧ cap ≤ maxLen ∧ g < B ∧ w.cell? ⟨g, o + j, none⟩ = some rs ∧ RIn w B rs r := by
  obtain ⟨A, cap, rfl, h3, h4, -, -, h5⟩ := h
  obtain ⟨hlt, -⟩ := List.getElem?_eq_some_iff.1 hj
  obtain ⟨g, o, rfl, hg, hc⟩ := h5 (by omega)
  obtain ⟨cs, -, ⟨s, rfl, hr⟩, hcc⟩ := hc j r hj
  have h1 := hcc 0 s rfl
  rw [Nat.mul_one, Nat.add_zero] at h1
  exact ⟨g, o, cap, s, rfl, h3, h4, hg, h1, hr⟩
theorem StR.keep0 {w w' : World} {B : Nat} {v : Value} {tabs : List (List (List Val))} (h : StR w B v tabs) (hB : B ≤ w.heap.size) (hk : Kept Kno w w') : StR w' B v tabs := h.old (hk.old hB (fun _ _ h => h)) (Nat.le_refl _)
theorem RowsIn.keep0 {w w' : World} {B : Nat} {s : Value} {rows : List (List Val)} (h : RowsIn w B s rows) (hB : B ≤ w.heap.size) (hk : Kept Kno w w') : RowsIn w' B s rows := h.old (hk.old hB (fun _ _ h => h)) (Nat.le_refl _)

def FRel (n : Nat) (w : World) (i : Value) (wr : World) : Prop := ∃ k : Nat, k ≤ n ∧ i = .int .i64 k ∧ Kept Kno w wr
set_option maxRecDepth 100000 in
set_option maxHeartbeats 3000000 in
theorem find_any (B : Nat) (sv stv kv : Value) (ver : Int) (ts : List Tbl) (tabs : List (List (List Val))) (j : Nat) (t : Tbl) (rows : List (List Val)) (kx : List Val) (w : World) (hs : SchIn w B ver ts sv) (hst : StR w B stv tabs) (hB : B ≤ w.heap.size) (hj : ts[j]? = some t) (hr : tabs[j]? = some rows)
    (hfit : ∀ r ∈ rows, t.cols.length ≤ r.length ∧ r.length ≤ 1000) (hk : RIn w B kv kx) :
    Calls Tryz.prog 219 #[sv, stv, .int .i64 j, kv] w (FindOk rows.length w) := by
  obtain ⟨hjl, -⟩ := List.getElem?_eq_some_iff.1 hj
  obtain ⟨hjt, -⟩ := List.getElem?_eq_some_iff.1 hr
  obtain ⟨g, o, tcap, st, rfl, htc, htm, hgB, hTI, -⟩ := id (hs.tbl hj)
  obtain ⟨-, -, -, hk1, hk2, -, -⟩ := hTI
  obtain ⟨kn, hkn⟩ : ∃ kn : Nat, t.key = kn := ⟨t.key.toNat, by omega⟩
  obtain ⟨g2, o2, scap, s, rfl, hsc, hsm, hgB2, hcs, hrows⟩ := hst.row hr
  have HSCH := Lib.hid hs
  have HKV := Lib.hid hk
  have HFIT := Lib.hid hfit
  have HJ := Lib.hid hj
  have HROWS := Lib.hid hrows
  obtain ⟨kA, kc, rfl⟩ : ∃ A c, kv = .slice A kx.length c := SlIn.form hk
  obtain ⟨aA, ac, rfl⟩ : ∃ A c, s = .slice A rows.length c := LyIn.form hrows
  have hacl : rows.length ≤ ac := by obtain ⟨A', c', he, h3, -⟩ := hrows; simp only [Value.slice.injEq] at he; rw [he.2.2]; exact h3
  have hacm : ac ≤ 9223372036854775807 := by obtain ⟨A', c', he, -, h4, -⟩ := hrows; simp only [Value.slice.injEq] at he; rw [he.2.2]; simpa only [maxLen] using h4
  have htm' : tcap ≤ 9223372036854775807 := by simpa only [maxLen] using htm
  have hsm' : scap ≤ 9223372036854775807 := by simpa only [maxLen] using hsm
  have hj0 : (0 : Int) ≤ (j : Int) := by omega
  have hjI : (j : Int) < (ts.length : Int) := by omega
  have hjT : (j : Int) < (tabs.length : Int) := by omega
  have hjn : decide ((j : Int) < 0) = false := by simp
  have hjN : decide (ts.length ≤ j) = false := by simp; omega
  have hjN2 : decide (tabs.length ≤ j) = false := by simp; omega
  clear hs hk hfit hj hr hrows hst hsm htm hk1
  have hgw2 : g2 < w.heap.size := by omega
  go_enter Tryz.func219, Tryz.ntmps219
  go_upto_region 1 with (fail)
  obtain ⟨w0, h0⟩ : ∃ w0, (w.alloc (.cells #[.int .i64 ver, .slice (some ⟨g, o, none⟩) ts.length tcap] 82)).alloc (.cells #[.slice (some ⟨g2, o2, none⟩) tabs.length scap] 100) = w0 := ⟨_, rfl⟩
  have hk0 : Kept Kno w w0 := by rw [← h0]; exact ((Kept.refl _ _).alloc _).alloc _
  have HB4 : Hid (Blk w0 w.heap.size 82 #[.int .i64 ver, .slice (some ⟨g, o, none⟩) ts.length tcap]) := Lib.hid (by rw [← h0]; exact (Blk.new _ _ _).alloc _)
  have HB5 : Hid (Blk w0 (w.heap.size + 1) 100 #[.slice (some ⟨g2, o2, none⟩) tabs.length scap]) := Lib.hid (by rw [← h0]; have := Blk.new (w.alloc (.cells #[.int .i64 ver, .slice (some ⟨g, o, none⟩) ts.length tcap] 82)) 100 #[.slice (some ⟨g2, o2, none⟩) tabs.length scap]; simpa using this)
  have c41 : w0.cell? ⟨w.heap.size, 1, none⟩ = some (.slice (some ⟨g, o, none⟩) ts.length tcap) := HB4.out.cell 1
  have c50 : w0.cell? ⟨w.heap.size + 1, 0, none⟩ = some (.slice (some ⟨g2, o2, none⟩) tabs.length scap) := HB5.out.cell 0
  have cs0 : w0.cell? ⟨g2, o2 + j, none⟩ = some (.slice aA rows.length ac) := hk0.cell_some hcs (fun h => h)
  have HK0 := Lib.hid hk0
  rw [h0]
  clear h0 hk0 hcs
  go_upto_region 4 with (fail)
  clear c41 c50 cs0
  go_loopw [33] (fun i wr => FRel rows.length w0 i wr) (fun i _ => rows.length - (intOf i).toNat)
  case atStart => exact ⟨0, Nat.zero_le _, rfl, Kept.refl _ _⟩
  case round =>
    obtain ⟨k, hk, rfl, hkk⟩ := hrel
    have hk0 : (0 : Int) ≤ (k : Int) := by omega
    have HKK := Lib.hid hkk
    clear hkk
    by_cases hlt : k < rows.length
    · have hltI : (k : Int) < (rows.length : Int) := by omega
      have hkw : Kept Kno w wr := HK0.out.then0 HKK.out
      obtain ⟨r, hr⟩ : ∃ r, rows[k]? = some r := ⟨_, List.getElem?_eq_getElem hlt⟩
      obtain ⟨gr, og, rc, rs, he, hrl, hrm, hgr, cr, hrs⟩ := (HROWS.out.keep0 hB hkw).row hr
      simp only [Value.slice.injEq, true_and] at he
      obtain ⟨rfl, rfl⟩ := he
      have hfr := HFIT.out r (List.mem_of_getElem? hr)
      obtain ⟨rA2, rc2, rfl⟩ : ∃ A c, rs = .slice A r.length c := SlIn.form hrs
      have hb4 := HB4.out.kept HKK.out (fun h => h)
      have b40 : wr.cell? ⟨w.heap.size, 0, none⟩ = some (.int .i64 ver) := hb4.cell 0
      have b41 : wr.cell? ⟨w.heap.size, 0 + 1, none⟩ = some (.slice (some ⟨g, o, none⟩) ts.length tcap) := hb4.cell 1
      have hBr : B ≤ wr.heap.size := Nat.le_trans hB hkw.size
      have hC := key_any B (.agg #[.int .i64 ver, .slice (some ⟨g, o, none⟩) ts.length tcap]) (.slice rA2 r.length rc2) ver ts wr (HSCH.out.keep0 hB hkw) hBr j t HJ.out r hrs kn hkn (by omega) hfr.2
      generalize r.take kn = ky at hC
      have HC := Lib.hid hC
      have HKV2 := Lib.hid (HKV.out.keep0 hB hkw)
      clear hC hrs hb4 hr hrl hrm
      go_upto_region 6 with (fail)
      go_wp2_with fail
      refine HC.out.mono ?_
      rintro e w5 ⟨A5, c5, rfl, ho5, hk5⟩
      have HO5 := Lib.hid ho5
      have HK5 := Lib.hid hk5
      clear ho5 hk5 HC b40 b41 cr
      go_wp2_with fail
      refine (crows_any w5.heap.size _ _ ky kx w5 (OwnR.rin HO5.out rfl) ((HKV2.out.keep0 hBr HK5.out).old (fun _ _ => rfl) (by have := HK5.out.size; omega)) (Nat.le_refl _)).mono ?_
      rintro e w6 ⟨c, rfl, hk6⟩
      have HK6 := Lib.hid (HKK.out.then0 (HK5.out.then0 hk6))
      clear hk6 HO5 HK5 HKV2
      by_cases hc : c = 0
      · subst hc
        go_wp2
        go_ret
        exact ⟨k, rfl, .inr ⟨hk0, hltI⟩, HK0.out.then0 HK6.out⟩
      · have hcb : (c == 0) = false := by rw [beq_eq_false_iff_ne]; exact hc
        go_wp2
        go_roundw
        case rel => exact ⟨k + 1, hlt, by go_num, HK6.out⟩
        case measure => simp only [intOf]; omega
    · have hltI : ¬ (k : Int) < (rows.length : Int) := by omega
      go_wp2
      go_ret
      exact ⟨-1, rfl, .inl rfl, HK0.out.then0 HKK.out⟩

def GetOk (w : World) (e : Ending) (w' : World) : Prop := ∃ (A : Option Addr) (n cap : Nat) (b : Bool), e = .returned (.tuple #[.slice A n cap, .bool b]) ∧ Kept Kno w w'
set_option maxRecDepth 100000 in
set_option maxHeartbeats 3000000 in
theorem get_any (B : Nat) (sv stv kv : Value) (ver : Int) (ts : List Tbl) (tabs : List (List (List Val))) (j : Nat) (t : Tbl) (rows : List (List Val)) (kx : List Val) (w : World) (hs : SchIn w B ver ts sv) (hst : StR w B stv tabs) (hB : B ≤ w.heap.size) (hj : ts[j]? = some t) (hr : tabs[j]? = some rows)
    (hfit : ∀ r ∈ rows, t.cols.length ≤ r.length ∧ r.length ≤ 1000) (hk : RIn w B kv kx) :
    Calls Tryz.prog 126 #[sv, stv, .int .i64 j, kv] w (GetOk w) := by
  obtain ⟨hjt, -⟩ := List.getElem?_eq_some_iff.1 hr
  obtain ⟨g, o, tcap, st, rfl, htc, htm, hgB, -, -⟩ := id (hs.tbl hj)
  obtain ⟨g2, o2, scap, s, rfl, hsc, hsm, hgB2, hcs, hrows⟩ := hst.row hr
  have HROWS := Lib.hid hrows
  have HFIT := Lib.hid hfit
  obtain ⟨kA, kc, rfl⟩ : ∃ A c, kv = .slice A kx.length c := SlIn.form hk
  obtain ⟨aA, ac, rfl⟩ : ∃ A c, s = .slice A rows.length c := LyIn.form hrows
  have hsm' : scap ≤ 9223372036854775807 := by simpa only [maxLen] using hsm
  have hj0 : (0 : Int) ≤ (j : Int) := by omega
  have hjT : (j : Int) < (tabs.length : Int) := by omega
  have hkA : Kept Kno w ((w.alloc (.cells #[.int .i64 ver, .slice (some ⟨g, o, none⟩) ts.length tcap] 82)).alloc (.cells #[.slice (some ⟨g2, o2, none⟩) tabs.length scap] 100)) := ((Kept.refl _ _).alloc _).alloc _
  have HB5 : Hid (Blk ((w.alloc (.cells #[.int .i64 ver, .slice (some ⟨g, o, none⟩) ts.length tcap] 82)).alloc (.cells #[.slice (some ⟨g2, o2, none⟩) tabs.length scap] 100)) (w.heap.size + 1) 100 #[.slice (some ⟨g2, o2, none⟩) tabs.length scap]) := Lib.hid (by have := Blk.new (w.alloc (.cells #[.int .i64 ver, .slice (some ⟨g, o, none⟩) ts.length tcap] 82)) 100 #[.slice (some ⟨g2, o2, none⟩) tabs.length scap]; simpa using this)
  have HC := Lib.hid (find_any B _ _ _ ver ts tabs j t rows kx _ (hs.keep0 hB hkA) (hst.keep0 hB hkA) (Nat.le_trans hB hkA.size) hj hr hfit (hk.keep0 hB hkA))
  have HKA := Lib.hid hkA
  have HCS := Lib.hid hcs
  clear hs hst hj hr hfit hk hrows hsm htm hkA hcs
  go_enter Tryz.func126, Tryz.ntmps126
  go_wp2_with fail
  refine HC.out.mono ?_
  rintro e w1 ⟨k, rfl, hk, hk1⟩
  have HK1 := Lib.hid hk1
  have HKW := Lib.hid (HKA.out.then0 hk1)
  have c50 : w1.cell? ⟨w.heap.size + 1, 0, none⟩ = some (.slice (some ⟨g2, o2, none⟩) tabs.length scap) := (HB5.out.kept hk1 (fun h => h)).cell 0
  have cs0 : w1.cell? ⟨g2, o2 + j, none⟩ = some (.slice aA rows.length ac) := (HKA.out.then0 hk1).cell_some HCS.out (fun h => h)
  clear hk1 HC
  rcases hk with rfl | ⟨hk0, hkl⟩
  · go_wp2
    go_ret2
    exact ⟨none, 0, 0, false, rfl, HKW.out⟩
  · obtain ⟨i, rfl⟩ : ∃ i : Nat, k = i := ⟨k.toNat, by omega⟩
    have hil : i < rows.length := by omega
    obtain ⟨r, hr⟩ : ∃ r, rows[i]? = some r := ⟨_, List.getElem?_eq_getElem hil⟩
    obtain ⟨gr, og, rc, rs, he, hrl, hrm, hgr, cr, hrs⟩ := (HROWS.out.keep0 hB HKW.out).row hr
    simp only [Value.slice.injEq, true_and] at he
    obtain ⟨rfl, rfl⟩ := he
    have hfr := HFIT.out r (List.mem_of_getElem? hr)
    obtain ⟨rA2, rc2, rfl⟩ : ∃ A c, rs = .slice A r.length c := SlIn.form hrs
    have hrm' : ac ≤ 9223372036854775807 := by simpa only [maxLen] using hrm
    have HRS := Lib.hid hrs
    have hkn : ¬ ((i : Int) < 0) := by omega
    clear hr hrm hrs
    go_wp2_with fail
    refine (rcopy_any B _ r w1 HRS.out hfr.2).mono ?_
    rintro e w5 ⟨A5, c5, rfl, ho5, hk5⟩
    have HK5 := Lib.hid (HKW.out.then0 hk5)
    clear ho5 hk5
    go_wp2
    go_ret2
    exact ⟨A5, r.length, c5, true, rfl, HK5.out⟩

end Go.Proofs.YtffdaohmalmkfaaGreat
/-
  PacketOwns: what the case's Changes leans on. No program in sight.
-/
namespace Go.Proofs.YtffdaohmalmkfaaGreat
open Go.RowKit
set_option linter.unusedVariables false

theorem StAt.app {S : Nat → Bool} {w w' : World} {v v' : Value} {T n cap : Nat} {tabs : List (List (List Val))} (h : StAt (orow S v) w T n cap tabs) (hT : S T = true) (hg : w.grownBy w' v.ownBlock) (hat : v'.ownBlock = v.ownBlock ∨ v'.ownBlock = some w.heap.size) (hne : v.ownBlock ≠ some T) : StAt (orow S v') w' T n cap tabs := by
  obtain ⟨cs, h1, h2, h0, h3, h4, h5, h6⟩ := h
  refine ⟨cs, h1.grown hg (fun e => hne e.symm), h2, h0, h3, h4, orow_le hT, fun i rows hi => ?_⟩
  obtain ⟨s, hs, hr⟩ := h6 i rows hi
  exact ⟨s, hs, RowsIn.sub0 (uni_sub _ _ _) (hr.old (grown_old hg (fun k hk => orow_own hk) (fun k hk => orow_next hat hk)) hg.size)⟩
theorem StAt.alloc_ {S : Nat → Bool} {w : World} {T n cap : Nat} {tabs : List (List (List Val))} (h : StAt S w T n cap tabs) (o : Obj) : StAt S (w.alloc o) T n cap tabs := h.kept ((Kept.refl Kno w).alloc o) (fun _ h => h.elim) (fun h => h.elim)
theorem rowC_drop (xs : List Val) (k : Nat) : (rowC xs).drop (k * 3) = rowC (xs.drop k) := by
  induction xs generalizing k with
  | nil => simp [rowC]
  | cons x xs ih =>
    cases k with
    | zero => simp [rowC]
    | succ k =>
      have h1 : (vCells x).length = 3 := rfl
      simp only [rowC, List.flatMap_cons, List.drop_succ_cons] at ih ⊢
      rw [List.drop_append, List.drop_of_length_le (by rw [h1]; omega), h1, List.nil_append, show (k + 1) * 3 - 3 = k * 3 by omega, ih]
/-- A row into which another one is copied. -/
theorem OwnR.copied {w : World} {base g n cap : Nat} {xs ys : List Val} {cur : Array Value} {t : TypeId} (h : OwnR w base (.slice (some ⟨g, 0, none⟩) n cap) xs) (hb : w.heap[g]? = some (.cells cur t (0, 0))) (hl : ys.length ≤ xs.length) :
    OwnR (w.setRow g (cur.toList.take 0 ++ rowC ys ++ cur.toList.drop (0 + (rowC ys).length)).toArray) base (.slice (some ⟨g, 0, none⟩) n cap) (ys ++ xs.drop ys.length) := by
  have hlen : (ys ++ xs.drop ys.length).length = xs.length := by rw [List.length_append, List.length_drop]; omega
  obtain ⟨h1, h2⟩ := h
  unfold OwnR
  rw [hlen]
  refine ⟨by rw [rowC_length, hlen], .inr ?_⟩
  rcases h2 with ⟨he, -⟩ | ⟨g', cap', cur', he, hbg, hblk, hle, hmax, hsz, htake⟩
  · cases he
  · simp only [Value.slice.injEq, Option.some.injEq, Addr.mk.injEq, and_true] at he
    obtain ⟨rfl, rfl, rfl⟩ := he
    rw [hb] at hblk
    simp only [Option.some.injEq, Obj.cells.injEq, and_true] at hblk
    obtain ⟨rfl, rfl⟩ := hblk
    have hyl : (rowC ys).length = ys.length * 3 := rowC_length ys
    have hcl : xs.length * 3 ≤ cur.size := by omega
    refine ⟨g, cap, _, rfl, hbg, setRow_heap w g cur _ _ (0, 0) hb, hle, hmax, ?_, ?_⟩
    · rw [List.size_toArray]
      simp only [List.take_zero, List.nil_append, Nat.zero_add, List.length_append, List.length_drop, Array.length_toList, hyl]
      omega
    · simp only [List.take_zero, List.nil_append, Nat.zero_add]
      have hr : rowC (ys ++ xs.drop ys.length) = rowC ys ++ (rowC xs).drop (ys.length * 3) := by
        simp only [rowC, List.flatMap_append]
        congr 1
        exact (rowC_drop xs ys.length).symm
      rw [hr, hyl, List.take_append, hyl, List.take_of_length_le (by rw [hyl]; omega), ← htake, ← List.drop_take]

def S4 (S : Nat → Bool) (R T : Nat) : Nat → Bool := more (more (more S (R + 1)) (R + 1 + 1)) T
theorem S4_old {S : Nat → Bool} {R T k : Nat} (h : k < R) (hT : R ≤ T) : S4 S R T k = S k := by
  unfold S4
  rw [more_old (by omega), more_old (by omega), more_old (by omega)]
theorem S4_lt {S : Nat → Bool} {R T n : Nat} (hS : ∀ k, S k = true → k < n) (h6 : R + 1 + 1 < n) (hT : T < n) : ∀ k, S4 S R T k = true → k < n := fun k hk => by
  cases hs : S k with
  | true => exact hS k hs
  | false =>
    have : (k = R + 1 ∨ k = R + 1 + 1) ∨ k = T := by simpa [S4, more, hs] using hk
    omega
theorem S4_T {S : Nat → Bool} {R T : Nat} : S4 S R T T = true := more_self _ _
theorem S4_8 {S : Nat → Bool} {R T : Nat} : S4 S R T (R + 1) = true := more_le (more_le (more_self _ _))
theorem S4_11 {S : Nat → Bool} {R T : Nat} : S4 S R T (R + 1 + 1) = true := more_le (more_self _ _)
/-- Changes under way: R the box of the schema, then the state's variable, then the result; T the state's row; A, m, c the changes. -/
structure ChRel (S : Nat → Bool) (K : Nat) (v : Value) (l : List UInt8) (s : Value) (ver : Int) (ts : List Tbl) (R T n cap L base : Nat) (w wr : World) (tabs : List (List (List Val))) (A : Option Addr) (c m : Nat) (cs : List Value) : Prop where
  g : Goes K v l w wr
  b6 : Blk wr R 82 #[.int .i64 ver, s]
  b8 : Blk wr (R + 1) 100 #[.slice (some ⟨T, 0, none⟩) n cap]
  b11 : Blk wr (R + 1 + 1) 100 #[.slice none 0 0]
  st : StAt (orow (S4 S R T) (.slice A m c)) wr T n cap tabs
  ok : TabsOk ts L tabs
  own : wr.ownsRow base 223 3 (.slice A m c) m cs
  hb : base ≤ wr.heap.size
/-- What stays the same. -/
structure ChK (K R T base : Nat) (w : World) : Prop where
  k : K < w.heap.size
  r : w.heap.size ≤ R
  b : R + 1 + 1 < base
  t : T < base
  tr : R + 1 + 1 < T
section
variable {S : Nat → Bool} {K : Nat} {v : Value} {l : List UInt8} {sv s : Value} {ver : Int} {ts : List Tbl} {B0 R T n cap L L' base : Nat} {w wr wx w7 : World} {tabs tabs' : List (List (List Val))} {A A2 : Option Addr} {c c2 m : Nat} {cs cx : List Value}
theorem ChRel.p (h : ChRel S K v l s ver ts R T n cap L base w wr tabs A c m cs) (k : ChK K R T base w) (H : ScPre S K v l sv ver ts B0 w) : ScPre (orow (S4 S R T) (.slice A m c)) K v l sv ver ts B0 wr := by
  have := k.k; have := k.r; have := k.b; have := k.t; have := k.tr; have hb := h.hb
  refine H.at2 h.g.2 (fun k hk => by unfold Kone at hk; subst hk; exact H.SK) h.g.1 (fun k hk => (orow_old (base := base) (fun k e => (own_base h.own e).1) (by omega)).trans (S4_old (by omega) (by omega))) (fun k hk => ?_)
  rcases orow_cases hk with e | e
  · exact S4_lt (fun k hk => by have := H.lt k hk; have := h.g.2.size; omega) (by omega) (by omega) k e
  · exact (own_base h.own e).2
theorem ChRel.goes (h : ChRel S K v l s ver ts R T n cap L base w wr tabs A c m cs) (k : ChK K R T base w) (H : ScPre S K v l sv ver ts B0 w) (hg : Goes K v l wr wx) : ChRel S K v l s ver ts R T n cap L base w wx tabs A c m cs := by
  have := k.k; have := k.r; have := k.b; have := k.t; have := k.tr
  exact ⟨h.g.then_ hg, h.b6.kept hg.2 (fun e => by unfold Kone at e; omega), h.b8.kept hg.2 (fun e => by unfold Kone at e; omega), h.b11.kept hg.2 (fun e => by unfold Kone at e; omega), h.st.kept hg.2 (fun k' hk => by unfold Kone at hk; subst hk; exact (h.p k H).SK) (fun e => by unfold Kone at e; omega), h.ok, own_kept h.own hg.2 (fun k' hk e => by unfold Kone at e; have := (own_base h.own hk).1; omega), Nat.le_trans h.hb hg.2.size⟩
theorem ChRel.app (h : ChRel S K v l s ver ts R T n cap L base w wr tabs A c m cs) (k : ChK K R T base w) (H : ScPre S K v l sv ver ts B0 w) {o : Obj} (hg : (wr.alloc o).grownBy w7 (Value.slice A m c).ownBlock) (hown : w7.ownsRow base 223 3 (.slice A2 (m + 1) c2) (m + 1) (cs ++ cx))
    (hat : (Value.slice A2 (m + 1) c2).ownBlock = (Value.slice A m c).ownBlock ∨ (Value.slice A2 (m + 1) c2).ownBlock = some (wr.alloc o).heap.size) : ChRel S K v l s ver ts R T n cap L base w w7 tabs A2 c2 (m + 1) (cs ++ cx) := by
  have := k.k; have := k.r; have := k.b; have := k.t; have := k.tr
  have hge : ∀ k, (Value.slice A m c).ownBlock = some k → base ≤ k := fun k e => (own_base h.own e).1
  have hka : Kept Kno wr (wr.alloc o) := (Kept.refl _ _).alloc _
  refine ⟨Goes.grown H.c (h.g.then0 hka) hg (fun k e => by have := hge k e; omega), (h.b6.alloc _).grown hg (fun e => by have := hge _ e.symm; omega), (h.b8.alloc _).grown hg (fun e => by have := hge _ e.symm; omega), (h.b11.alloc _).grown hg (fun e => by have := hge _ e.symm; omega), (h.st.alloc_ o).app S4_T hg hat (fun e => by have := hge _ e; omega), h.ok, hown, ?_⟩
  have h1 := hg.size
  have h2 := h.hb
  simp at h1
  omega
theorem ChRel.put (h : ChRel S K v l s ver ts R T n cap L base w wr tabs A c m cs) (k : ChK K R T base w) (H : ScPre S K v l sv ver ts B0 w) (hst : StAt (orow (S4 S R T) (.slice A m c)) wx T n cap tabs') (hk : Kept (Kone T) wr wx) (hok : TabsOk ts L' tabs') :
    ChRel S K v l s ver ts R T n cap L' base w (wx.setCell ⟨R + 1, 0, none⟩ (.slice (some ⟨T, 0, none⟩) n cap)) tabs' A c m cs := by
  have := k.k; have := k.r; have := k.b; have := k.t; have := k.tr
  have hk2 : Kept (Kone (R + 1)) wx (wx.setCell ⟨R + 1, 0, none⟩ (.slice (some ⟨T, 0, none⟩) n cap)) := (Kept.refl _ _).setIn (p := ⟨R + 1, 0, none⟩) (by unfold Kone; rfl) _
  have hg1 := Goes.thenN H.c h.g hk (fun k e => by unfold Kone at e; omega)
  refine ⟨Goes.thenN H.c hg1 hk2 (fun k e => by unfold Kone at e; omega), (h.b6.kept hk (fun e => by unfold Kone at e; omega)).kept hk2 (fun e => by unfold Kone at e; omega), ?_, (h.b11.kept hk (fun e => by unfold Kone at e; omega)).kept hk2 (fun e => by unfold Kone at e; omega), hst.kept hk2 (fun k e => by unfold Kone at e; subst e; exact orow_le S4_8) (fun e => by unfold Kone at e; omega), hok, ?_, Nat.le_trans h.hb (Nat.le_trans hk.size hk2.size)⟩
  · exact (h.b8.kept hk (fun e => by unfold Kone at e; omega)).set_ 0 _
  · have h1 := own_kept h.own hk (fun k' hk' e => by unfold Kone at e; have := (own_base h.own hk').1; omega)
    exact own_kept h1 hk2 (fun k' hk' e => by unfold Kone at e; have := (own_base h1 hk').1; omega)
theorem ChRel.mono (h : ChRel S K v l s ver ts R T n cap L base w wr tabs A c m cs) (hL : L ≤ L') : ChRel S K v l s ver ts R T n cap L' base w wr tabs A c m cs := ⟨h.g, h.b6, h.b8, h.b11, h.st, h.ok.mono hL, h.own, h.hb⟩
theorem ChRel.done (h : ChRel S K v l s ver ts R T n cap L base w wr tabs A c m cs) (k : ChK K R T base w) (H : ScPre S K v l sv ver ts B0 w) (u : Value) : StAt (more S T) (wr.setCell ⟨R + 1 + 1, 0, none⟩ u) T n cap tabs ∧ Goes K v l w (wr.setCell ⟨R + 1 + 1, 0, none⟩ u) := by
  have := k.k; have := k.r; have := k.b; have := k.t; have := k.tr
  have hk2 : Kept (Kone (R + 1 + 1)) wr (wr.setCell ⟨R + 1 + 1, 0, none⟩ u) := (Kept.refl _ _).setIn (p := ⟨R + 1 + 1, 0, none⟩) (by unfold Kone; rfl) _
  obtain ⟨cs', h1, h2, h0, h3, h4, h5, h6⟩ := h.st.kept hk2 (fun k e => by unfold Kone at e; subst e; exact orow_le S4_11) (fun e => by unfold Kone at e; omega)
  refine ⟨⟨cs', h1, h2, h0, h3, h4, more_self _ _, fun i rows hi => ?_⟩, Goes.thenN H.c h.g hk2 (fun k e => by unfold Kone at e; omega)⟩
  obtain ⟨s, hs, hr⟩ := h6 i rows hi
  refine ⟨s, hs, RowsIn.sub0 (sub_le (fun k' hk' => ?_) _) hr⟩
  rcases (by simpa [more] using hk' : S k' = true ∨ k' = T) with e | e
  · exact orow_le (more_le (more_le (more_le e)))
  · subst e; exact orow_le S4_T
end

end Go.Proofs.YtffdaohmalmkfaaGreat
/-
  PacketOwns: edits and deltas in memory. No program in sight.
-/
namespace Go.Proofs.YtffdaohmalmkfaaGreat
open Go.RowKit
set_option linter.unusedVariables false

theorem info_edit : (Tryz.prog.info? 73).map (fun i => (i.zero, i.size, i.bytes)) = some (some (.agg #[.int .i64 0, .int .i64 0, .slice none 0 0, .slice none 0 0, .slice none 0 0]), 5, 88) := by kernel_rfl
/-- An edit. -/
structure Ed where
  op : Int
  tab : Int
  key : List Val
  cols : List Int
  cells : List Val
/-- A list of ints that is read. -/
def IIn (w : World) (B : Nat) (v : Value) (xs : List Int) : Prop := SlIn w B 1 v xs.length (xs.map iv)
def EdQ (w : World) (B : Nat) (x : Ed) (cs : List Value) : Prop := ∃ k c v, cs = [.int .i64 x.op, .int .i64 x.tab, k, c, v] ∧ RIn w B k x.key ∧ IIn w B c x.cols ∧ RIn w B v x.cells
theorem clo_ed : Clo EdQ := ⟨fun ho hB ⟨a, b, c, e, h1, h2, h3⟩ => ⟨a, b, c, e, h1.old ho hB, SlIn.old h2 ho hB, h3.old ho hB⟩, fun hc ⟨a, b, c, e, h1, h2, h3⟩ => ⟨a, b, c, e, SlIn.sub0 hc h1, SlIn.sub0 hc h2, SlIn.sub0 hc h3⟩⟩
/-- A list of edits that is read. -/
def EdsIn (w : World) (B : Nat) (v : Value) (xs : List Ed) : Prop := LyIn B v xs.length (AtL w 5 (EdQ w B) xs)
theorem EdsIn.old {w w' : World} {B B' : Nat} (ho : Old B w w') (hB : B ≤ B') {v : Value} {xs : List Ed} (h : EdsIn w B v xs) : EdsIn w' B' v xs :=
  h.mono hB (fun g o hg h => h.old hg ho (fun _ _ _ h => clo_ed.old ho hB h))
theorem EdsIn.sub0 {w w' : World} {B : Nat} (hc : Sub0 w w') {v : Value} {xs : List Ed} (h : EdsIn w B v xs) : EdsIn w' B v xs :=
  h.mono (Nat.le_refl _) (fun g o hg h => h.sub0 hc (fun _ _ _ h => clo_ed.sub hc h))
theorem IIn.old {w w' : World} {B B' : Nat} (ho : Old B w w') (hB : B ≤ B') {v : Value} {xs : List Int} (h : IIn w B v xs) : IIn w' B' v xs := SlIn.old h ho hB
theorem IIn.sub0 {w w' : World} {B : Nat} (hc : Sub0 w w') {v : Value} {xs : List Int} (h : IIn w B v xs) : IIn w' B v xs := SlIn.sub0 hc h
/-- The same where only what lies outside of B or new changes. -/
theorem EdsIn.keep0 {w w' : World} {B : Nat} {v : Value} {xs : List Ed} (h : EdsIn w B v xs) (hB : B ≤ w.heap.size) (hk : Kept Kno w w') : EdsIn w' B v xs := h.old (hk.old hB (fun _ _ h => h)) (Nat.le_refl _)
theorem IIn.keep0 {w w' : World} {B : Nat} {v : Value} {xs : List Int} (h : IIn w B v xs) (hB : B ≤ w.heap.size) (hk : Kept Kno w w') : IIn w' B v xs := SlIn.old h (hk.old hB (fun _ _ h => h)) (Nat.le_refl _)
theorem EdsIn.keepS {S : Nat → Bool} {R : Nat → Prop} {w w' : World} {v : Value} {xs : List Ed} (h : EdsIn (erase S w) w.heap.size v xs) (hk : Kept R w w') (hR : ∀ k, R k → S k = true) : EdsIn (erase S w') w'.heap.size v xs :=
  EdsIn.old ((erase_kept hk hR (fun _ _ => rfl)).old (B := w.heap.size) (by rw [erase_size]; exact Nat.le_refl _) (fun _ _ h => h)) hk.size h

/-- The law's edits: the key is one int; no column, or column 1 with a text. -/
def EdOk (x : Ed) : Prop :=
  ((x.op = 3 ∧ x.cols = [] ∧ x.cells = []) ∨ ((x.op = 1 ∨ x.op = 2) ∧ x.cols = [1] ∧ ∃ s : ByteArray, x.cells = [⟨5, 0, s⟩] ∧ s.size ≤ 64)) ∧ 0 ≤ x.tab ∧ x.tab ≤ 2 ∧ ∃ n : Int, x.key = [⟨4, n, ⟨#[]⟩⟩] ∧ 0 ≤ n ∧ n ≤ 1000
/-- A delta. -/
structure Dl where
  dev : Int
  round : Int
  from_ : Int
  to_ : Int
  kept : List Int
  dec : Int
  part : Int
  parts : Int
  edits : List Ed
def dltC (x : Dl) (k e : Value) : Array Value := #[.int .i64 2, .int .i64 x.dev, .int .i64 x.round, .int .i64 0, .int .i64 0, .slice none 0 0, .int .i64 0, .slice none 0 0, .int .i64 x.from_, .int .i64 x.to_, k, .int .i64 x.dec, .int .i64 x.part, .int .i64 x.parts, e, .int .i64 0, .int .i64 0, .int .i64 0, .slice none 0 0, .bool false, .slice none 0 0, .int .i64 0, .int .i64 0, .int .i64 0, .slice none 0 0, .int .i64 0, .int .i64 0, .int .i64 0, .int .i64 0, .int .i64 0, .slice none 0 0]
/-- Its lists. -/
def DlIn (w : World) (B : Nat) (x : Dl) (k e : Value) : Prop := IIn w B k x.kept ∧ EdsIn w B e x.edits
theorem DlIn.old {w w' : World} {B B' : Nat} (ho : Old B w w') (hB : B ≤ B') {x : Dl} {k e : Value} (h : DlIn w B x k e) : DlIn w' B' x k e := ⟨h.1.old ho hB, h.2.old ho hB⟩
theorem DlIn.sub0 {w w' : World} {B : Nat} (hc : Sub0 w w') {x : Dl} {k e : Value} (h : DlIn w B x k e) : DlIn w' B x k e := ⟨h.1.sub0 hc, h.2.sub0 hc⟩
def DlQ (w : World) (B : Nat) (x : Dl) (cs : List Value) : Prop := ∃ k e, cs = (dltC x k e).toList ∧ DlIn w B x k e
theorem clo_dl : Clo DlQ := ⟨fun ho hB ⟨a, b, e, h⟩ => ⟨a, b, e, h.old ho hB⟩, fun hc ⟨a, b, e, h⟩ => ⟨a, b, e, h.sub0 hc⟩⟩
/-- Increasing, from a number on that lies behind a. -/
def Inc : Int → List Int → Prop
  | _, [] => True
  | a, x :: xs => a < x ∧ Inc x xs
/-- A delta that is valid, but for its edits. -/
structure DlOk (x : Dl) : Prop where
  dev : 1 ≤ x.dev ∧ x.dev ≤ 8
  round : 0 ≤ x.round ∧ x.round ≤ 1073741824
  to_ : 0 ≤ x.to_ ∧ x.to_ ≤ 1073741824
  from_ : -1 ≤ x.from_ ∧ x.from_ ≤ x.to_
  dec : 0 ≤ x.dec ∧ x.dec ≤ 1073741824
  parts : 1 ≤ x.parts ∧ x.parts ≤ 512
  part : 0 ≤ x.part ∧ x.part ≤ x.parts - 1
  kept : Inc 0 x.kept ∧ x.kept.length ≤ 8
  eds : ∀ y ∈ x.edits, EdOk y
theorem EdOk.real {x : Ed} (h : EdOk x) : realsB x.key = true := by
  obtain ⟨-, -, -, n, h1, -⟩ := h
  rw [h1]
  simp [realsB, realB, validB]
theorem EdOk.klen {x : Ed} (h : EdOk x) : x.key.length = 1 := by
  obtain ⟨-, -, -, n, h1, -⟩ := h
  rw [h1]
  rfl
theorem EdOk.vals {x : Ed} (h : EdOk x) : ∀ y ∈ x.key, okVal y := by
  obtain ⟨-, -, -, n, h1, h2, h3⟩ := h
  rw [h1]
  intro y hy
  simp only [List.mem_singleton] at hy
  subst hy
  exact ⟨by show -9223372036854775808 ≤ n; omega, by show n ≤ 9223372036854775807; omega, by show 0 ≤ maxLen; omega⟩

/-! Parts of a delta. -/
theorem chunks {α : Type} (xs : List α) : ∀ n, ((List.range n).map (fun i => (xs.drop (32 * i)).take 32)).flatten = xs.take (32 * n)
  | 0 => by simp
  | n + 1 => by
    rw [List.range_succ, List.map_append, List.flatten_append, chunks xs n]
    simp only [List.map_cons, List.map_nil, List.flatten_cons, List.flatten_nil, List.append_nil]
    rw [Nat.mul_add, Nat.mul_one, List.take_add]
/-- Part i of n. -/
def partOf (x : Dl) (n i : Nat) : Dl := { x with part := i, parts := n, edits := (x.edits.drop (32 * i)).take 32 }
theorem EdsIn.cut {w : World} {B : Nat} {A : Option Addr} {m cap : Nat} {xs : List Ed} (h : EdsIn w B (.slice A m cap) xs) {f l : Nat} (hf : f < l) (hl : l ≤ xs.length) :
    ∃ g o, A = some ⟨g, o, none⟩ ∧ m = xs.length ∧ xs.length ≤ cap ∧ cap ≤ maxLen ∧ EdsIn w B (.slice (some ⟨g, o + f * 5, none⟩) (l - f) (cap - f)) ((xs.drop f).take (l - f)) := by
  obtain ⟨A', cap', he, h3, h4, h5, h6, h7⟩ := h
  simp only [Value.slice.injEq] at he
  obtain ⟨rfl, rfl, rfl⟩ := he
  obtain ⟨g, o, rfl, hg, hc⟩ := h7 (by omega)
  have hlen : ((xs.drop f).take (l - f)).length = l - f := by rw [List.length_take, List.length_drop]; omega
  refine ⟨g, o, rfl, rfl, h3, h4, ?_⟩
  unfold EdsIn
  rw [hlen]
  refine ⟨_, cap - f, rfl, by omega, by omega, (fun h => by cases h), (fun k hk => ?_), fun _ => ⟨g, o + f * 5, rfl, hg, (hc.drop f).take (l - f)⟩⟩
  simp only [Value.ownBlock, Option.some.injEq] at hk
  subst hk
  exact hg

end Go.Proofs.YtffdaohmalmkfaaGreat
