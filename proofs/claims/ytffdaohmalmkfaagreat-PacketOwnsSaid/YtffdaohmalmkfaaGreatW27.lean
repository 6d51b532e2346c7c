/-
  Contracts and plain laws that the claim's theorem rests on.
-/
import Derived.Test.YtffdaohmalmkfaaGreatW26
set_option linter.unusedSimpArgs false
set_option linter.unusedVariables false
/-
  PacketOwns: the case's Row.
-/
namespace Go.Proofs.YtffdaohmalmkfaaGreat
open Go.RowKit
set_option linter.unusedVariables false

theorem rowC_snoc (xs : List Val) (x : Val) : rowC (xs ++ [x]) = rowC xs ++ vCells x := by simp [rowC]
/-- What the case's Row returns. -/
def CRowOk (K : Nat) (v : Value) (l : List UInt8) (n : Nat) (w : World) (e : Ending) (w' : World) : Prop :=
  ∃ A cap xs, e = .returned (.slice A xs.length cap) ∧ OwnR w' w.heap.size (.slice A xs.length cap) xs ∧ xs.length = n ∧ (∀ x ∈ xs, ValOk x) ∧ Goes K v l w w'
def CRowRel (K : Nat) (v : Value) (l : List UInt8) (n : Nat) (w : World) (out i : Value) (wr : World) : Prop :=
  ∃ (A : Option Addr) (cap : Nat) (xs : List Val), xs.length ≤ n ∧ i = .int .i64 xs.length ∧ out = .slice A xs.length cap ∧ OwnR wr w.heap.size (.slice A xs.length cap) xs ∧ (∀ x ∈ xs, ValOk x) ∧ Goes K v l w wr
theorem CRowRel.next {K : Nat} {v : Value} {l : List UInt8} {n : Nat} {w w5 w7 : World} {A A2 : Option Addr} {cap c2 : Nat} {xs : List Val} {x : Val} {o : Obj} (hc : ∃ a, CaseIs w K v l a) (hlt : xs.length < n) (how : OwnR w5 w.heap.size (.slice A xs.length cap) xs) (hall : ∀ x ∈ xs, ValOk x) (hg : Goes K v l w w5) (hx : ValOk x)
    (hown2 : w7.ownsRow w.heap.size 49 3 (.slice A2 (xs.length + 1) c2) (xs.length + 1) (rowC xs ++ vCells x)) (hg2 : (w5.alloc o).grownBy w7 (Value.slice A xs.length cap).ownBlock) :
    CRowRel K v l n w (.slice A2 (xs.length + 1) c2) (.int .i64 ((xs.length : Int) + 1)) w7 := by
  have hl : (xs ++ [x]).length = xs.length + 1 := by simp
  refine ⟨A2, c2, xs ++ [x], by omega, by rw [hl]; rfl, by rw [hl], ?_, fun y hy => ?_, Goes.grown hc (hg.then0 ((Kept.refl _ _).alloc _)) hg2 (fun k e => (own_base how e).1)⟩
  · unfold OwnR
    rw [hl, rowC_snoc]
    exact hown2
  · rcases List.mem_append.1 hy with h | h
    · exact hall y h
    · simp only [List.mem_singleton] at h
      subst h
      exact hx
theorem valok_plain (k : Int) (h : k = 1 ∨ k = 2) : ValOk ⟨k, 0, ⟨#[]⟩⟩ := by
  rcases h with rfl | rfl
  · exact ⟨by simp [validB, Lib.toList_data], by decide, by decide, by decide⟩
  · exact ⟨by simp [validB, Lib.toList_data], by decide, by decide, by decide⟩

set_option maxRecDepth 100000 in
set_option maxHeartbeats 8000000 in
theorem crow_any (S : Nat → Bool) (K : Nat) (v : Value) (l : List UInt8) (us : Value) (ks : List Int) (key : Nat) (mode : Int) (B : Nat) (w : World) (h : ∃ a, CaseIs w K v l a) (hSK : S K = true) (hu : SlIn (erase S w) B 1 us ks.length (ks.map iv)) (hB : B ≤ w.heap.size) (hk : ∀ x ∈ ks, 3 ≤ x ∧ x ≤ 5) (hl : ks.length ≤ 1000) :
    Calls Tryz.prog 73 #[.pointer (some ⟨K, 0, none⟩), us, .int .i64 key, .int .i64 mode] w (CRowOk K v l ks.length w) := by
  obtain ⟨i0, hi, hz0, hz1, hz2⟩ := info_parts info_val
  have H := Lib.hid h
  have HU := Lib.hid hu
  have HKI := Lib.hid hk
  obtain ⟨UA, ucap, rfl⟩ : ∃ A c, us = .slice A ks.length c := SlIn.form hu
  have hKw : K < w.heap.size := by obtain ⟨a, h⟩ := h; exact h.blk.lt
  clear h hu hk
  go_enter Tryz.func73, Tryz.ntmps73
  go_wp2_with fail
  go_loopw [9, 14] (fun out i wr => CRowRel K v l ks.length w out i wr) (fun _ i _ => ks.length - (intOf i).toNat)
  case atStart => exact ⟨none, 0, [], Nat.zero_le _, rfl, rfl, World.ownsRow_nil _ _ _ _, by simp, Goes.of0 H.out (Kept.refl _ _)⟩
  case round =>
    obtain ⟨A, cap, xs, hle, rfl, rfl, how, hall, hg⟩ := hrel
    have HOW := Lib.hid how
    have HALL := Lib.hid hall
    have HG := Lib.hid hg
    have hj0 : (0 : Int) ≤ (xs.length : Int) := by omega
    clear how hall
    by_cases hlt : xs.length < ks.length
    · have hltI : (xs.length : Int) < (ks.length : Int) := by omega
      obtain ⟨q, hq⟩ : ∃ q, ks[xs.length]? = some q := ⟨_, List.getElem?_eq_getElem hlt⟩
      have hqr := HKI.out q (List.mem_of_getElem? hq)
      have m1 : xs.length + 1 ≤ maxLen := by simp only [maxLen]; omega
      obtain ⟨A', uc', he, huc, hum, -, -, -, hua⟩ := SlIn.sub0 (erase_sub S wr) (HU.out.old ((goes_erase hSK hg.2).old (by rw [erase_size]; exact hB) (fun _ _ h => h)) (Nat.le_refl _))
      simp only [Value.slice.injEq, true_and] at he
      obtain ⟨rfl, rfl⟩ := he
      obtain ⟨g, o, rfl, -, hc⟩ := hua (by omega)
      have cq : wr.cell? ⟨g, o + xs.length, none⟩ = some (.int .i64 q) := hc xs.length _ (by rw [List.getElem?_map, hq]; rfl)
      have hum' : ucap ≤ 9223372036854775807 := by simpa only [maxLen] using hum
      clear hc hq hua hum hg
      go_upto_region 6 with (fail)
      clear cq
      go_cut [25] (fun s wx => ∃ b : Bool, s = .bool b ∧ Goes K v l wr wx)
      case first =>
        by_cases hik : (key : Int) ≤ (xs.length : Int)
        · by_cases hm1 : mode = 1
          · subst hm1
            go_wp2
            go_meet
            exact ⟨false, rfl, Goes.of0 HG.out.1 (Kept.refl _ _)⟩
          · have hm1b : (mode != 1) = true := by rw [bne_iff_ne]; exact hm1
            go_wp2_with fail
            obtain ⟨a, hca⟩ := HG.out.1
            refine (cbool_any K a 5 v l wr hca (by decide) (by decide)).mono ?_
            rintro e w2 ⟨b, rfl, hg2⟩
            have HG2 := Lib.hid hg2
            clear hg2 hca
            go_wp2
            go_meet
            exact ⟨b, rfl, HG2.out⟩
        · have hikI : (xs.length : Int) < (key : Int) := by omega
          go_wp2
          go_meet
          exact ⟨false, rfl, Goes.of0 HG.out.1 (Kept.refl _ _)⟩
      case rest =>
        obtain ⟨b, rfl, hg2⟩ := hcut
        have HG2 := Lib.hid (HG.out.then_ hg2)
        have HOW2 : Hid (OwnR wc w.heap.size (.slice A xs.length cap) xs) := Lib.hid (own_kept HOW.out hg2.2 (fun k hk e => by unfold Kone at e; have := (own_base HOW.out hk).1; omega))
        have hsz2 : w.heap.size ≤ wc.heap.size := HG2.out.2.size
        clear hg2
        cases b with
        | true =>
          go_wp2_with (at_builtin; go_must (refine wpList_append_rd _ rfl _ _ 30 rfl w.heap.size 49 i0 _ 3 32 Tryz.underlying30 hi hz0 hz1 hz2 rfl (by decide) (.slice A xs.length cap) xs.length (rowC xs) rfl (World.ownsRow.alloc HOW2.out _) _ 1 [.int .i64 2, .int .i64 0, .string ⟨#[]⟩] rfl (Rd.one' _ _ _ rfl (by simp)) (by simp [Value.oneCell']) m1 (by omega) (by simp; omega) ?_); intro A2 c2 w3 hown2 hg2 hat2)
          refine ⟨CRowRel.next (x := ⟨2, 0, ⟨#[]⟩⟩) H.out hlt HOW2.out HALL.out HG2.out (valok_plain 2 (.inr rfl)) hown2 hg2, ?_⟩
          simp [intOf]
          omega
        | false =>
          go_upto_region 8 with (fail)
          go_cut [41] (fun s wx => ∃ b : Bool, s = .bool b ∧ Goes K v l wc wx)
          case first =>
            by_cases hik : (key : Int) ≤ (xs.length : Int)
            · by_cases hm1 : mode = 3
              · subst hm1
                go_wp2_with fail
                obtain ⟨a, hca⟩ := HG2.out.1
                refine (cbool_any K a 5 v l wc hca (by decide) (by decide)).mono ?_
                rintro e w2 ⟨b, rfl, hg2⟩
                have HG3 := Lib.hid hg2
                clear hg2 hca
                go_wp2
                go_meet
                exact ⟨b, rfl, HG3.out⟩
              · have hm1b : (mode == 3) = false := by rw [beq_eq_false_iff_ne]; exact hm1
                go_wp2
                go_meet
                exact ⟨false, rfl, Goes.of0 HG2.out.1 (Kept.refl _ _)⟩
            · have hikI : (xs.length : Int) < (key : Int) := by omega
              go_wp2
              go_meet
              exact ⟨false, rfl, Goes.of0 HG2.out.1 (Kept.refl _ _)⟩
          case rest =>
            rename_i wb
            obtain ⟨b, rfl, hg2⟩ := hcut
            have HG3 := Lib.hid (HG2.out.then_ hg2)
            have HOW3 : Hid (OwnR wc w.heap.size (.slice A xs.length cap) xs) := Lib.hid (own_kept HOW2.out hg2.2 (fun k hk e => by unfold Kone at e; have := (own_base HOW2.out hk).1; omega))
            have hsz3 : w.heap.size ≤ wc.heap.size := HG3.out.2.size
            clear hg2
            cases b with
            | true =>
              go_wp2_with (at_builtin; go_must (refine wpList_append_rd _ rfl _ _ 30 rfl w.heap.size 49 i0 _ 3 32 Tryz.underlying30 hi hz0 hz1 hz2 rfl (by decide) (.slice A xs.length cap) xs.length (rowC xs) rfl (World.ownsRow.alloc HOW3.out _) _ 1 [.int .i64 1, .int .i64 0, .string ⟨#[]⟩] rfl (Rd.one' _ _ _ rfl (by simp)) (by simp [Value.oneCell']) m1 (by omega) (by simp; omega) ?_); intro A2 c2 w3 hown2 hg2 hat2)
              refine ⟨CRowRel.next (x := ⟨1, 0, ⟨#[]⟩⟩) H.out hlt HOW3.out HALL.out HG3.out (valok_plain 1 (.inl rfl)) hown2 hg2, ?_⟩
              simp [intOf]
              omega
            | false =>
              go_wp2_with fail
              obtain ⟨a, hca⟩ := HG3.out.1
              refine (valueK_any K a q v l wc hca hqr.1 hqr.2).mono ?_
              rintro e w4 ⟨⟨xk, xn, xs'⟩, hx, hxk, rfl, hg4⟩
              have HG4 := Lib.hid (HG3.out.then_ hg4)
              have HOW4 : Hid (OwnR w4 w.heap.size (.slice A xs.length cap) xs) := Lib.hid (own_kept HOW3.out hg4.2 (fun k hk e => by unfold Kone at e; have := (own_base HOW3.out hk).1; omega))
              have hsz4 : w.heap.size ≤ w4.heap.size := HG4.out.2.size
              have HX := Lib.hid hx
              simp only [Val.v]
              clear hg4 hca hx hxk
              go_wp2_with (at_builtin; go_must (refine wpList_append_rd _ rfl _ _ 30 rfl w.heap.size 49 i0 _ 3 32 Tryz.underlying30 hi hz0 hz1 hz2 rfl (by decide) (.slice A xs.length cap) xs.length (rowC xs) rfl (World.ownsRow.alloc HOW4.out _) _ 1 [.int .i64 xk, .int .i64 xn, .string xs'] rfl (Rd.one' _ _ _ rfl (by simp)) (by simp [Value.oneCell']) m1 (by omega) (by simp; omega) ?_); intro A2 c2 w5 hown2 hg2 hat2)
              refine ⟨CRowRel.next (x := ⟨xk, xn, xs'⟩) H.out hlt HOW4.out HALL.out HG4.out HX.out hown2 hg2, ?_⟩
              simp [intOf]
              omega
    · have hltI : ¬ (xs.length : Int) < (ks.length : Int) := by omega
      go_wp2
      go_ret
      exact ⟨A, cap, xs, rfl, HOW.out, by omega, HALL.out, HG.out⟩

end Go.Proofs.YtffdaohmalmkfaaGreat
/-
  PacketOwns: the reference's Put.
-/
namespace Go.Proofs.YtffdaohmalmkfaaGreat
open Go.RowKit
set_option linter.unusedVariables false

theorem info_rowp : (Tryz.prog.info? 30).map (fun i => (i.zero, i.size, i.bytes)) = some (some (.slice none 0 0), 1, 24) := by kernel_rfl
section
variable {S : Nat → Bool} {w w' : World} {v v' : Value} {r : List Val} {cs : List Value}
theorem RowQ.app (h : RowQ (erase (orow S v) w) w.heap.size r cs) (hg : w.grownBy w' v.ownBlock) (hat : v'.ownBlock = v.ownBlock ∨ v'.ownBlock = some w.heap.size) : RowQ (erase (orow S v') w') w'.heap.size r cs :=
  RowQ.sub0 (uni_sub _ _ _) (RowQ.old (grown_old hg (fun k hk => orow_own hk) (fun k hk => orow_next hat hk)) hg.size h)
theorem RowQ.keep {R : Nat → Prop} (h : RowQ (erase S w) w.heap.size r cs) (hk : Kept R w w') (hR : ∀ k, R k → S k = true) : RowQ (erase S w') w'.heap.size r cs :=
  RowQ.old ((erase_kept hk hR (fun _ _ => rfl)).old (B := w.heap.size) (by rw [erase_size]; exact Nat.le_refl _) (fun _ _ h => h)) hk.size h
end
/-- A table's rows under way. -/
structure POut (S : Nat → Bool) (w0 w : World) (A : Option Addr) (cap : Nat) (qs : List (List Val × List Value)) (rows : List (List Val)) (rx : List Val) : Prop where
  own : OwnL w w0.heap.size 30 1 (.slice A qs.length cap) qs
  q : ∀ q ∈ qs, RowQ (erase (orow S (.slice A qs.length cap)) w) w.heap.size q.1 q.2
  m : ∀ q ∈ qs, q.1 ∈ rows ∨ q.1 = rx ∧ rx ≠ []
  k : Kept Kno w0 w
  S0 : ∀ k, S k = true → k < w0.heap.size
section
variable {S : Nat → Bool} {w0 w w' w7 : World} {A A2 : Option Addr} {cap c2 : Nat} {qs : List (List Val × List Value)} {rows : List (List Val)} {rx r : List Val} {s : Value}
theorem POut.nil (hS : ∀ k, S k = true → k < w0.heap.size) (hk : Kept Kno w0 w) : POut S w0 w none 0 [] rows rx := ⟨OwnL.nil, by simp, by simp, hk, hS⟩
theorem POut.step0 (h : POut S w0 w A cap qs rows rx) (hk : Kept Kno w w') : POut S w0 w' A cap qs rows rx :=
  ⟨⟨own_kept h.own.1 hk (fun _ _ h => h), h.own.2⟩, fun q hq => (h.q q hq).keep hk (fun _ h => h.elim), h.m, h.k.then0 hk, h.S0⟩
theorem POut.orow_old (h : POut S w0 w A cap qs rows rx) {k : Nat} (hk : k < w0.heap.size) : orow S (.slice A qs.length cap) k = S k := Go.Proofs.YtffdaohmalmkfaaGreat.orow_old (fun k e => (own_base h.own.1 e).1) hk
theorem POut.orow_new (h : POut S w0 w A cap qs rows rx) {k : Nat} (hk : w.heap.size ≤ k) : orow S (.slice A qs.length cap) k = false := by
  cases hx : orow S (.slice A qs.length cap) k with
  | false => rfl
  | true =>
    rcases orow_cases hx with e | e
    · have := h.S0 k e; have := h.k.size; omega
    · have := (own_base h.own.1 e).2; omega
theorem POut.push (h : POut S w0 w A cap qs rows rx) (hr : RowQ (erase (orow S (.slice A qs.length cap)) w) w.heap.size r [s]) (hm : r ∈ rows ∨ r = rx ∧ rx ≠ [])
    (hg2 : (w.alloc (.cells #[s] 30)).grownBy w7 (Value.slice A qs.length cap).ownBlock) (hown2 : w7.ownsRow w0.heap.size 30 1 (.slice A2 (qs.length + 1) c2) (qs.length + 1) ((qs.map (·.2)).flatten ++ [s]))
    (hat2 : (Value.slice A2 (qs.length + 1) c2).ownBlock = (Value.slice A qs.length cap).ownBlock ∨ (Value.slice A2 (qs.length + 1) c2).ownBlock = some (w.alloc (.cells #[s] 30)).heap.size) : POut S w0 w7 A2 c2 (qs ++ [(r, [s])]) rows rx := by
  have hl : (qs ++ [(r, [s])]).length = qs.length + 1 := by simp
  have hka : Kept Kno w (w.alloc (.cells #[s] 30)) := (Kept.refl _ _).alloc _
  refine ⟨by rw [hl]; exact OwnL.push h.own.2 rfl hown2, fun q hq => ?_, fun q hq => ?_, (h.k.then0 hka).grown hg2 (fun k hk e => by have := (own_base h.own.1 e).1; omega), h.S0⟩
  · rw [hl]
    rcases List.mem_append.1 hq with hq | hq
    · exact ((h.q q hq).keep hka (fun _ h => h.elim)).app hg2 hat2
    · simp only [List.mem_singleton] at hq
      subst hq
      exact (hr.keep hka (fun _ h => h.elim)).app hg2 hat2
  · rcases List.mem_append.1 hq with hq | hq
    · exact h.m q hq
    · simp only [List.mem_singleton] at hq
      subst hq
      exact hm
/-- A row that was there. -/
theorem POut.was (h : POut S w0 w A cap qs rows rx) {B : Nat} {r : List Val} {cs : List Value} (hr : RowQ (erase S w0) B r cs) (hB : B ≤ w0.heap.size) : RowQ (erase (orow S (.slice A qs.length cap)) w) w.heap.size r cs :=
  RowQ.old ((erase_kept (S' := orow S (.slice A qs.length cap)) h.k (fun _ h => h.elim) (fun k hk => h.orow_old hk)).old (by rw [erase_size]; exact hB) (fun _ _ h => h)) (Nat.le_trans hB h.k.size) hr
/-- A new row. -/
theorem POut.fresh (h : POut S w0 w A cap qs rows rx) {xs : List Val} {A3 : Option Addr} {c3 : Nat} (hk : Kept Kno w w') (ho : OwnR w' w.heap.size (.slice A3 xs.length c3) xs) : RowQ (erase (orow S (.slice A qs.length cap)) w') w'.heap.size xs [.slice A3 xs.length c3] :=
  ⟨_, rfl, ho.rinS rfl (fun k hk => h.orow_new hk)⟩
end

/-- What Put returns. -/
def RPutOk (S : Nat → Bool) (T n cap : Nat) (tabs : List (List (List Val))) (j : Nat) (rows : List (List Val)) (rx : List Val) (w : World) (e : Ending) (w' : World) : Prop :=
  ∃ rows', e = .returned (.agg #[.slice (some ⟨T, 0, none⟩) n cap]) ∧ StAt S w' T n cap (tabs.set j rows') ∧ rows'.length ≤ rows.length + 1 ∧ (∀ r ∈ rows', r ∈ rows ∨ r = rx ∧ rx ≠ []) ∧ Kept (Kone T) w w'
def RPutRel (S : Nat → Bool) (w0 : World) (rows : List (List Val)) (rx : List Val) (out dn i : Value) (wr : World) : Prop :=
  ∃ (k : Nat) (b : Bool) (A : Option Addr) (cap : Nat) (qs : List (List Val × List Value)), k ≤ rows.length ∧ i = .int .i64 k ∧ dn = .bool b ∧ out = .slice A qs.length cap ∧ POut S w0 wr A cap qs rows rx ∧ qs.length ≤ k + 1 ∧ (b = false → rx ≠ [] ∧ qs.length ≤ k)

theorem RowsIn.keep {S : Nat → Bool} {R : Nat → Prop} {w w' : World} {s : Value} {rows : List (List Val)} (h : RowsIn (erase S w) w.heap.size s rows) (hk : Kept R w w') (hR : ∀ k, R k → S k = true) : RowsIn (erase S w') w'.heap.size s rows :=
  RowsIn.old ((erase_kept hk hR (fun _ _ => rfl)).old (B := w.heap.size) (by rw [erase_size]; exact Nat.le_refl _) (fun _ _ h => h)) hk.size h
theorem POut.done {S : Nat → Bool} {w w0 wx : World} {A : Option Addr} {cap : Nat} {qs : List (List Val × List Value)} {rows : List (List Val)} {rx : List Val} {T n c j R : Nat} {tabs : List (List (List Val))} (h : POut (more S R) w0 wx A cap qs rows rx) (hst : StAt S w T n c tabs) (hk0 : Kept Kno w w0) (hj : j < tabs.length) (hR : w.heap.size ≤ R) (hT : T < w.heap.size) (u : Value) :
    StAt S ((wx.setCell ⟨T, j, none⟩ (.slice A qs.length cap)).setCell ⟨R, 0, none⟩ u) T n c (tabs.set j (qs.map (·.1))) ∧ Kept (Kone T) w ((wx.setCell ⟨T, j, none⟩ (.slice A qs.length cap)).setCell ⟨R, 0, none⟩ u) := by
  obtain ⟨cs, h1, h2, h0, h3, h4, h5, h6⟩ := (hst.more hR).kept (hk0.then0 h.k) (fun _ h => h.elim) (fun h => h.elim)
  have hkw : Kept Kno w wx := hk0.then0 h.k
  have hk1 : Kept (Kone T) w ((wx.setCell ⟨T, j, none⟩ (.slice A qs.length cap)).setCell ⟨R, 0, none⟩ u) := ((hkw.mono (T := Kone T) (fun _ _ h => h.elim)).setIn (p := ⟨T, j, none⟩) (by unfold Kone; rfl) _).setNew hR _
  have hk2 : Kept (fun k => more S R k = true) wx ((wx.setCell ⟨T, j, none⟩ (.slice A qs.length cap)).setCell ⟨R, 0, none⟩ u) := ((Kept.refl _ _).setIn (p := ⟨T, j, none⟩) h5 _).setIn (p := ⟨R, 0, none⟩) (more_self S R) _
  have hsub := sub_le (S := S) (S' := more S R) (fun k h => more_le h) ((wx.setCell ⟨T, j, none⟩ (.slice A qs.length cap)).setCell ⟨R, 0, none⟩ u)
  refine ⟨⟨cs.setIfInBounds j (.slice A qs.length cap), (h1.set_ j _).far (show T ≠ R by omega) _, by rw [List.length_set]; exact h2, h0, h3, h4, ?_, fun i rs hi => ?_⟩, hk1⟩
  · obtain ⟨-, -, -, -, -, -, h5', -⟩ := hst
    exact h5'
  · rw [List.getElem?_set] at hi
    split at hi
    · rename_i e
      subst e
      cases hi
      have hjc : j < cs.size := by
        obtain ⟨s, hs, -⟩ := h6 j tabs[j] (List.getElem?_eq_getElem hj)
        exact (Array.getElem?_eq_some_iff.1 hs).1
      refine ⟨.slice A qs.length cap, by simp [hjc], RowsIn.sub0 hsub (RowsIn.keep ?_ hk2 (fun _ h => h))⟩
      have := h.own.ly (S := more S R) (Q := RowQ (erase (more S R) wx) wx.heap.size) rfl (fun q hq => RowQ.sub0 (orow_sub _ _ _) (h.q q hq)) (fun k hk => by
        cases hx : more S R k with
        | false => rfl
        | true => have := h.S0 k hx; omega)
      unfold RowsIn
      rw [List.length_map]
      exact this
    · rename_i e
      obtain ⟨s, hs, hr⟩ := h6 i rs hi
      exact ⟨s, by rw [Array.getElem?_setIfInBounds_ne e]; exact hs, RowsIn.sub0 hsub (RowsIn.keep hr hk2 (fun _ h => h))⟩

end Go.Proofs.YtffdaohmalmkfaaGreat
/-
  PacketOwns: the reference's Put, walked.
-/
namespace Go.Proofs.YtffdaohmalmkfaaGreat
open Go.RowKit
set_option linter.unusedVariables false

set_option maxRecDepth 100000 in
set_option maxHeartbeats 8000000 in
theorem rput_any (S : Nat → Bool) (B : Nat) (sv kv rv : Value) (ver : Int) (ts : List Tbl) (T n cap : Nat) (tabs : List (List (List Val))) (j : Nat) (t : Tbl) (rows : List (List Val)) (kx rx : List Val) (w : World) (hs : SchIn w B ver ts sv) (hB : B ≤ w.heap.size) (hj : ts[j]? = some t) (hst : StAt S w T n cap tabs) (hr : tabs[j]? = some rows)
    (hL : rows.length ≤ 1000) (hfit : ∀ r ∈ rows, t.cols.length ≤ r.length ∧ r.length ≤ 1000) (hk : RIn w B kv kx) (hrx : RIn w B rv rx) (hx : rx.length ≤ 1000) (hS : ∀ k, S k = true → k < w.heap.size) :
    Calls Tryz.prog 74 #[sv, .agg #[.slice (some ⟨T, 0, none⟩) n cap], .int .i64 j, kv, rv] w (RPutOk S T n cap tabs j rows rx w) := by
  obtain ⟨i0, hi, hz0, hz1, hz2⟩ := info_parts info_rowp
  obtain ⟨hjl, -⟩ := List.getElem?_eq_some_iff.1 hj
  obtain ⟨hjt, -⟩ := List.getElem?_eq_some_iff.1 hr
  obtain ⟨g, o, tcap, st, hsv, htc, htm, hgB, hTI, -⟩ := hs.tbl hj
  obtain ⟨-, -, -, hk1, hk2, -, -⟩ := hTI
  obtain ⟨kn, hkn⟩ : ∃ kn : Nat, t.key = kn := ⟨t.key.toNat, by omega⟩
  have HSCH := Lib.hid hs
  have HST := Lib.hid hst
  have HKV := Lib.hid hk
  have HRV := Lib.hid hrx
  have HFIT := Lib.hid hfit
  have HJ := Lib.hid hj
  have HJT := Lib.hid hr
  obtain ⟨kA, kc, rfl⟩ : ∃ A c, kv = .slice A kx.length c := SlIn.form hk
  obtain ⟨rA, rc, rfl⟩ : ∃ A c, rv = .slice A rx.length c := SlIn.form hrx
  obtain ⟨cs, hT, hn, hn0, hnc, hcm, hST, htab⟩ := hst
  obtain ⟨s, hsj, hrows⟩ := htab j rows hr
  obtain ⟨aA, ac, rfl, hac, ham, -, -, hat⟩ := hrows
  have HAT := Lib.hid hat
  have hTw : T < w.heap.size := hT.lt
  have hncm : cap ≤ 9223372036854775807 := by simpa only [maxLen] using hcm
  have hacm : ac ≤ 9223372036854775807 := by simpa only [maxLen] using ham
  have hjn : (j : Int) < (n : Int) := by omega
  have hj0 : (0 : Int) ≤ (j : Int) := by omega
  have HN := Lib.hid hn
  subst hsv
  clear hn
  clear hs hk hrx hfit hj hr htab hat hcm ham htm hk1
  go_enter Tryz.func74, Tryz.ntmps74
  go_upto_region 1 with (fail)
  obtain ⟨w0, h0⟩ : ∃ w0, ((w.alloc (.cells #[.int .i64 ver, .slice (some ⟨g, o, none⟩) ts.length tcap] 82)).alloc (.cells #[.slice (some ⟨T, 0, none⟩) n cap] 100)).alloc (.cells #[.slice none 0 0] 100) = w0 := ⟨_, rfl⟩
  have hk0 : Kept Kno w w0 := by rw [← h0]; exact (((Kept.refl _ _).alloc _).alloc _).alloc _
  have hz : w0.heap.size = w.heap.size + 3 := by rw [← h0]; simp
  have HB5 : Hid (Blk w0 w.heap.size 82 #[.int .i64 ver, .slice (some ⟨g, o, none⟩) ts.length tcap]) := Lib.hid (by rw [← h0]; exact ((Blk.new _ _ _).alloc _).alloc _)
  have HB6 : Hid (Blk w0 (w.heap.size + 1) 100 #[.slice (some ⟨T, 0, none⟩) n cap]) := Lib.hid (by rw [← h0]; have := (Blk.new (w.alloc (.cells #[.int .i64 ver, .slice (some ⟨g, o, none⟩) ts.length tcap] 82)) 100 #[.slice (some ⟨T, 0, none⟩) n cap]).alloc (.cells #[.slice none 0 0] 100); simpa using this)
  have HB7 : Hid (Blk w0 (w.heap.size + 1 + 1) 100 #[.slice none 0 0]) := Lib.hid (by rw [← h0]; have := Blk.new ((w.alloc (.cells #[.int .i64 ver, .slice (some ⟨g, o, none⟩) ts.length tcap] 82)).alloc (.cells #[.slice (some ⟨T, 0, none⟩) n cap] 100)) 100 #[.slice none 0 0]; simpa using this)
  have HT0 : Hid (Blk w0 T 171 cs) := Lib.hid (hT.kept hk0 (fun h => h))
  have HK0 := Lib.hid hk0
  have HS0 : Hid (∀ k, more S (w.heap.size + 1 + 1) k = true → k < w0.heap.size) := Lib.hid (fun k hk => by
    by_cases hkw : k < w.heap.size
    · omega
    · cases hx : S k with
      | true => exact absurd (hS k hx) hkw
      | false =>
        have : k = w.heap.size + 1 + 1 := by simpa [more, hx] using hk
        omega)
  have c6 := HB6.out.cell 0
  have cT : w0.cell? ⟨T, j, none⟩ = some (.slice aA rows.length ac) := (HT0.out.cell j).trans hsj
  simp only [List.getElem?_toArray, List.getElem?_cons_zero] at c6
  rw [h0]
  clear h0 hk0 hT hsj
  have HX := Lib.hid hS
  clear hS
  have hlen0 : ((rx.length : Int) == 0) = decide (rx = []) := by
    cases rx with
    | nil => rfl
    | cons a l => simp; omega
  go_upto_region 4 with (fail)
  clear c6 cT
  go_loopw [11, 12, 25] (fun out dn i wr => RPutRel (more S (w.heap.size + 1 + 1)) w0 rows rx out dn i wr) (fun _ _ i _ => rows.length - (intOf i).toNat)
  case atStart => exact ⟨0, decide (rx = []), none, 0, [], Nat.zero_le _, rfl, rfl, rfl, POut.nil HS0.out (Kept.refl _ _), Nat.zero_le _, fun h => ⟨by simpa using h, Nat.le_refl _⟩⟩
  case round =>
    obtain ⟨k, b, A, oc, qs, hk, rfl, rfl, rfl, hp, hl1, hl2⟩ := hrel
    have HP := Lib.hid hp
    have HL2 := Lib.hid hl2
    have hk0 : (0 : Int) ≤ (k : Int) := by omega
    clear hp hl2
    by_cases hlt : k < rows.length
    · have hltI : (k : Int) < (rows.length : Int) := by omega
      obtain ⟨gr, og, hA, hgr, hat⟩ := HAT.out (by omega)
      subst hA
      obtain ⟨r, hr⟩ : ∃ r, rows[k]? = some r := ⟨_, List.getElem?_eq_getElem hlt⟩
      obtain ⟨cs', -, hrq, hcc⟩ := hat k r hr
      have HRM := Lib.hid (List.mem_of_getElem? hr)
      have hkw : Kept Kno w wr := HK0.out.then0 HP.out.k
      obtain ⟨rs, rfl, hrs⟩ := id hrq
      have HRQ : Hid (RowQ (erase (more S (w.heap.size + 1 + 1)) w0) w.heap.size r [rs]) := Lib.hid (hrq.old ((erase_kept (S := S) (S' := more S (w.heap.size + 1 + 1)) HK0.out (fun _ h => h.elim) (fun k hk => more_old (by omega))).old (by rw [erase_size]; exact Nat.le_refl _) (fun _ _ h => h)) (Nat.le_refl _))
      have HRS : Hid (RIn wr wr.heap.size rs r) := Lib.hid ((SlIn.sub0 (erase_sub S w) hrs).old (hkw.old (Nat.le_refl _) (fun _ _ h => h)) hkw.size)
      have cr : wr.cell? ⟨gr, og + k, none⟩ = some rs := by
        have h1 := erase_cell (hcc 0 rs rfl)
        rw [Nat.mul_one, Nat.add_zero] at h1
        exact hkw.cell_some h1 (fun h => h)
      have HSC : Hid (SchIn wr wr.heap.size ver ts (.agg #[.int .i64 ver, .slice (some ⟨g, o, none⟩) ts.length tcap])) := Lib.hid (HSCH.out.old (hkw.old hB (fun _ _ h => h)) (by have := hkw.size; omega))
      have hb5 := HB5.out.kept HP.out.k (fun h => h)
      have b50 : wr.cell? ⟨w.heap.size, 0, none⟩ = some (.int .i64 ver) := hb5.cell 0
      have b51 : wr.cell? ⟨w.heap.size, 0 + 1, none⟩ = some (.slice (some ⟨g, o, none⟩) ts.length tcap) := hb5.cell 1
      obtain ⟨rA2, rc2, rfl⟩ : ∃ A c, rs = .slice A r.length c := SlIn.form hrs
      have hfr := HFIT.out r HRM.out
      have HKV2 : Hid (RIn wr wr.heap.size (.slice kA kx.length kc) kx) := Lib.hid (HKV.out.old (hkw.old hB (fun _ _ h => h)) (by have := hkw.size; omega))
      clear hrq hcc hr hrs hb5 hat
      have hC := key_any wr.heap.size (.agg #[.int .i64 ver, .slice (some ⟨g, o, none⟩) ts.length tcap]) (.slice rA2 r.length rc2) ver ts wr HSC.out (Nat.le_refl _) j t HJ.out r HRS.out kn hkn (by omega) hfr.2
      generalize r.take kn = ky at hC
      have HC := Lib.hid hC
      clear hC
      go_upto_region 6 with (fail)
      go_wp2_with fail
      refine HC.out.mono ?_
      rintro e w5 ⟨A5, c5, rfl, ho5, hk5⟩
      have HO5 := Lib.hid ho5
      have HK5 := Lib.hid hk5
      clear ho5 hk5 HC b50 b51 cr
      go_wp2_with fail
      refine (crows_any w5.heap.size _ _ ky kx w5 (OwnR.rin HO5.out rfl) (HKV2.out.old (HK5.out.old (Nat.le_refl _) (fun _ _ h => h)) HK5.out.size) (Nat.le_refl _)).mono ?_
      rintro e w6 ⟨c, rfl, hk6⟩
      have HP6 := Lib.hid (HP.out.step0 (HK5.out.then0 hk6))
      have hz6 : w0.heap.size ≤ w6.heap.size := HP6.out.k.size
      clear hk6 HO5 HK5 HKV2 HSC HRS
      have m1 : qs.length + 1 ≤ maxLen := by simp only [maxLen]; omega
      have hb15 : qs.length ≤ 1001 := by omega
      go_upto_region 7 with (fail)
      go_cut [40] (fun s wx => ∃ d : Bool, s = .bool d ∧ wx = w6 ∧ (d = true → b = false))
      case first =>
        by_cases hc : 0 ≤ c
        · cases b with
          | true =>
            go_wp2
            go_meet
            exact ⟨false, rfl, rfl, fun h => by cases h⟩
          | false =>
            go_wp2
            go_meet
            exact ⟨true, rfl, rfl, fun _ => by trivial⟩
        · have hcI : ¬ 0 ≤ c := hc
          go_wp2
          go_meet
          exact ⟨false, rfl, rfl, fun h => by cases h⟩
      case rest =>
      obtain ⟨d, rfl, rfl, hd⟩ := hcut
      go_upto_if 40 with (fail)
      go_cut [11, 12] (fun out dn wx => ∃ b' A' oc' qs', dn = .bool b' ∧ out = .slice A' qs'.length oc' ∧ POut (more S (w.heap.size + 1 + 1)) w0 wx A' oc' qs' rows rx ∧ qs'.length ≤ k + 1 ∧ (b' = false → rx ≠ [] ∧ qs'.length ≤ k))
      case first =>
        cases d with
        | false =>
          go_wp2
          go_meet
          exact ⟨b, A, oc, qs, rfl, rfl, HP6.out, hl1, HL2.out⟩
        | true =>
          have hbf := hd rfl
          subst hbf
          obtain ⟨hne, hlk⟩ := HL2.out rfl
          have HNE := Lib.hid hne
          clear hne
          go_wp2_with fail
          refine (rcopy_any wc.heap.size _ rx wc (HRV.out.old ((HK0.out.then0 HP6.out.k).old hB (fun _ _ h => h)) (by omega)) hx).mono ?_
          rintro e w7 ⟨A7, c7, rfl, ho7, hk7⟩
          have HF7 := Lib.hid (HP6.out.fresh hk7 ho7)
          have HP7 := Lib.hid (HP6.out.step0 hk7)
          have hz7 : w0.heap.size ≤ w7.heap.size := HP7.out.k.size
          clear ho7 hk7 HP6
          go_wp2_with (at_builtin; go_must (refine wpList_append_rd _ rfl _ _ 171 rfl w0.heap.size 30 i0 _ 1 24 Tryz.underlying171 hi hz0 hz1 hz2 rfl (by decide) (.slice A qs.length oc) qs.length (qs.map (·.2)).flatten rfl (World.ownsRow.alloc HP7.out.own.1 _) _ 1 [.slice A7 rx.length c7] rfl (Rd.one' _ _ _ rfl (by simp)) (by simp [Value.oneCell']) m1 (by omega) (by simp; omega) ?_); intro A2 c2 w8 hown2 hg2 hat2)
          have HP8 := Lib.hid (HP7.out.push HF7.out (.inr ⟨rfl, HNE.out⟩) hg2 hown2 hat2)
          clear HP7 HF7 hg2 hown2 hat2
          go_wp2
          go_meet
          exact ⟨true, A2, c2, _, rfl, by simp, HP8.out, by simp; omega, fun h => by cases h⟩
      case rest =>
        obtain ⟨b', A', oc', qs', rfl, rfl, hp', hl1', hl2'⟩ := hcut
        have HPX := Lib.hid hp'
        have HLX := Lib.hid hl2'
        have hzx : w0.heap.size ≤ wc.heap.size := HPX.out.k.size
        have m1 : qs'.length + 1 ≤ maxLen := by simp only [maxLen]; omega
        have hb15 : qs'.length ≤ 1001 := by omega
        clear hp' hl2' HP6 HP
        by_cases hc0 : c = 0
        · subst hc0
          go_wp2
          go_roundw
          case rel => exact ⟨k + 1, b', A', oc', qs', hlt, by go_num, rfl, rfl, HPX.out, by omega, fun h => ⟨(HLX.out h).1, by have := (HLX.out h).2; omega⟩⟩
          case measure => simp only [intOf]; omega
        · have hcb : (c != 0) = true := by rw [bne_iff_ne]; exact hc0
          have HW := Lib.hid (HPX.out.was HRQ.out (by omega))
          go_wp2_with (at_builtin; go_must (refine wpList_append_rd _ rfl _ _ 171 rfl w0.heap.size 30 i0 _ 1 24 Tryz.underlying171 hi hz0 hz1 hz2 rfl (by decide) (.slice A' qs'.length oc') qs'.length (qs'.map (·.2)).flatten rfl (World.ownsRow.alloc HPX.out.own.1 _) _ 1 [.slice rA2 r.length rc2] rfl (Rd.one' _ _ _ rfl (by simp)) (by simp [Value.oneCell']) m1 (by omega) (by simp; omega) ?_); intro A2 c2 w8 hown2 hg2 hat2)
          have HP8 := Lib.hid (HPX.out.push HW.out (.inl HRM.out) hg2 hown2 hat2)
          refine ⟨⟨k + 1, b', A2, c2, _, hlt, by go_num, rfl, by simp, HP8.out, by simp; omega, fun h => ⟨(HLX.out h).1, by have := (HLX.out h).2; simp; omega⟩⟩, ?_⟩
          simp [intOf]
          omega
    · have hltI : ¬ (k : Int) < (rows.length : Int) := by omega
      have hz6 : w0.heap.size ≤ wr.heap.size := HP.out.k.size
      have m1 : qs.length + 1 ≤ maxLen := by simp only [maxLen]; omega
      have hb15 : qs.length ≤ 1001 := by omega
      go_upto_if 54 with (fail)
      go_cut [11] (fun out wx => ∃ A' oc' qs', out = .slice A' qs'.length oc' ∧ POut (more S (w.heap.size + 1 + 1)) w0 wx A' oc' qs' rows rx ∧ qs'.length ≤ rows.length + 1)
      case first =>
        cases b with
        | true =>
          go_wp2
          go_meet
          exact ⟨A, oc, qs, rfl, HP.out, by omega⟩
        | false =>
          obtain ⟨hne, hlk⟩ := HL2.out rfl
          have HNE := Lib.hid hne
          clear hne
          go_wp2_with fail
          refine (rcopy_any wr.heap.size _ rx wr (HRV.out.old ((HK0.out.then0 HP.out.k).old hB (fun _ _ h => h)) (by omega)) hx).mono ?_
          rintro e w7 ⟨A7, c7, rfl, ho7, hk7⟩
          have HF7 := Lib.hid (HP.out.fresh hk7 ho7)
          have HP7 := Lib.hid (HP.out.step0 hk7)
          have hz7 : w0.heap.size ≤ w7.heap.size := HP7.out.k.size
          clear ho7 hk7 HP
          go_wp2_with (at_builtin; go_must (refine wpList_append_rd _ rfl _ _ 171 rfl w0.heap.size 30 i0 _ 1 24 Tryz.underlying171 hi hz0 hz1 hz2 rfl (by decide) (.slice A qs.length oc) qs.length (qs.map (·.2)).flatten rfl (World.ownsRow.alloc HP7.out.own.1 _) _ 1 [.slice A7 rx.length c7] rfl (Rd.one' _ _ _ rfl (by simp)) (by simp [Value.oneCell']) m1 (by omega) (by simp; omega) ?_); intro A2 c2 w8 hown2 hg2 hat2)
          have HP8 := Lib.hid (HP7.out.push HF7.out (.inr ⟨rfl, HNE.out⟩) hg2 hown2 hat2)
          clear HP7 HF7 hg2 hown2 hat2
          go_wp2
          go_meet
          exact ⟨A2, c2, _, by simp, HP8.out, by simp; omega⟩
      case rest =>
        obtain ⟨A', oc', qs', rfl, hp', hl1'⟩ := hcut
        have hD := POut.done hp' HST.out HK0.out hjt (by omega) hTw (.slice (some ⟨T, 0, none⟩) n cap)
        have HM := Lib.hid hp'.m
        have HD := Lib.hid hD
        have hbT := HT0.out.kept hp'.k (fun h => h)
        have hb6 := HB6.out.kept hp'.k (fun h => h)
        have HB7' : Hid (Blk wc (w.heap.size + 1 + 1) 100 #[.slice none 0 0]) := Lib.hid (HB7.out.kept hp'.k (fun h => h))
        have c6 : wc.cell? ⟨w.heap.size + 1, 0, none⟩ = some (.slice (some ⟨T, 0, none⟩) n cap) := hb6.cell 0
        have hjc : j < cs.size := by
          obtain ⟨cs2, e1, -, -, -, -, -, e2⟩ := HST.out
          have : cs2 = cs := by
            have e3 := e1.kept HK0.out (fun h => h)
            have e4 := HT0.out
            unfold Blk at e3 e4
            rw [e3] at e4
            simpa using e4
          subst this
          obtain ⟨s, hs, -⟩ := e2 j rows (by simpa using HJT.out)
          exact (Array.getElem?_eq_some_iff.1 hs).1
        have cT : wc.cell? ⟨T, j, none⟩ = some cs[j] := (hbT.cell j).trans (Array.getElem?_eq_getElem hjc)
        have fT := hbT.frozen j
        have c7 : wc.cell? ⟨w.heap.size + 1 + 1, 0, none⟩ = some (.slice none 0 0) := HB7'.out.cell 0
        have f7 := HB7'.out.frozen 0
        have hT6 : T ≠ w.heap.size + 1 := by omega
        have hT7 : T ≠ w.heap.size + 1 + 1 := by omega
        generalize cs[j] = cj at cT
        clear hp' hbT hb6 hjc hD
        go_wp2_with fail
        refine bodyPost_ret (v := .agg #[.slice (some ⟨T, 0, none⟩) n cap]) ?_ rfl ⟨qs'.map (·.1), rfl, HD.out.1, by simpa using hl1', fun r hr => ?_, HD.out.2⟩
        · exact results_cell_row rfl _ _ (w.heap.size + 1 + 1) 100 _ (0, 0) _ rfl ((HB7'.out.far (show w.heap.size + 1 + 1 ≠ T from fun e => hT7 e.symm) _).set_ 0 _) Tryz.underlying100 rfl (by kernel_rfl)
        · obtain ⟨q, hq, rfl⟩ := List.mem_map.1 hr
          exact HM.out q hq

end Go.Proofs.YtffdaohmalmkfaaGreat
