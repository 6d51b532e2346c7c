/-
  Journal: the contract of load, out of its loop.
-/
import Derived.Test.YteoodgcpkgfomaaJourF
namespace Go.Proofs.Yteoodgcpkgfomaa
open Go.RowKit Go.Shelf
attribute [local go_sem] Oper.semAt_some
set_option linter.unusedVariables false

/-- A block known whole that holds no byte is not where bytes lie. -/
theorem bs_far {w w' : World} {g : Nat} {t : TypeId} {cs : Array Value} {v : Value} {l : List UInt8} (h : Blk w g t cs) (hn : ∀ x : Int, Value.int .u8 x ∉ cs) (hb : Bs w v l) (hk : Kept (Kone g) w w') : Bs w' v l := by
  obtain ⟨A, cap, rfl, h1, h2, h3, h4⟩ := hb
  refine ⟨A, cap, rfl, h1, h2, h3, fun ad hA j u hj => ?_⟩
  have hc := h4 ad hA j u hj
  rw [List.getElem?_map] at hj
  cases hq : l[j]? with
  | none => rw [hq] at hj; cases hj
  | some c =>
    rw [hq] at hj
    simp only [Option.map_some, Option.some.injEq] at hj
    subst hj
    refine hk.cell_some hc (fun e => ?_)
    unfold Kone at e
    have hs := World.cell?_spot hc
    generalize ad.add j = p at hc e hs
    obtain ⟨g', o, spot⟩ := p
    simp only at e hs
    subst e hs
    rw [h.cell] at hc
    exact hn _ (Array.mem_of_getElem? hc)
theorem jCells_no_byte (B : Nat) (file : Int) (A1 A2 : Option Addr) (n1 n2 c1 c2 : Nat) (off : Bool) (x : Int) : Value.int .u8 x ∉ jCells B file (.slice A1 n1 c1) (.slice A2 n2 c2) off := by
  simp [jCells]

theorem frames_ge (rs : List (List UInt8)) : rs.length ≤ (frames rs).length := by
  induction rs with
  | nil => simp
  | cons r rs ih =>
    have := frame_pos r
    rw [frames_cons, List.length_append, List.length_cons]; omega
section
variable {w0 W W' : World} {J B : Nat} {file : Int} {v rv ev a b : Value} {st : Obj} {us : List Value} {rs es : List (List UInt8)}
theorem lf_grown (h : LF w0 W J B file v rv ev a b st) {e : TypeId} {n : Nat} {x : Value} {xs : List Value} (hr : W.ownsRow (w0.heap.size + 6) e 1 x n xs) (hg : W.grownBy W' x.ownBlock) : LF w0 W' J B file v rv ev a b st ∧ Kept (Kown x) W W' := by
  have hk : Kept (Kown x) W W' := (Kept.refl (Kown x) W).grown hg (fun k _ e => e)
  exact ⟨h.kept hk (fun k hk' e => by have := (own_base hr e).1; omega), hk⟩
theorem rr_set (h : LF w0 W J B file v rv ev a b st) {x : Value} (hr : RR W (w0.heap.size + 6) x us rs) (p : Nat) (u : Value) : RR (W.setCell ⟨J, p, none⟩ u) (w0.heap.size + 6) x us rs := by
  have hlt := h.lt
  refine hr.kept (Kept.setIn (S := Kone J) (Kept.refl _ _) (p := ⟨J, p, none⟩) (Eq.refl J) u) (fun k e e' => ?_) (fun z hz k e e' => ?_)
  · have := (own_base hr.row e).1; unfold Kone at e'; omega
  · obtain ⟨b, hb⟩ := hr.at hz
    have := (hb.2 k e).1; unfold Kone at e'; omega
theorem er_set (h : LF w0 W J B file v rv ev a b st) {x : Value} (hr : ER W (w0.heap.size + 6) x rs) (p : Nat) (u : Value) : ER (W.setCell ⟨J, p, none⟩ u) (w0.heap.size + 6) x rs := by
  have hlt := h.lt
  refine hr.kept (Kept.setIn (S := Kone J) (Kept.refl _ _) (p := ⟨J, p, none⟩) (Eq.refl J) u) (fun k e e' => ?_)
  have := (own_base hr e).1; unfold Kone at e'; omega
end

theorem LF.set_ab {w0 W : World} {J B : Nat} {file : Int} {v rv ev a b : Value} {st : Obj} (h : LF w0 W J B file v rv ev a b st) (a' b' : Value) : LF w0 ((W.setCell ⟨w0.heap.size + 1, 0, none⟩ a').setCell ⟨w0.heap.size + 1 + 1, 0, none⟩ b') J B file v rv ev a' b' st := by
  have hlt := h.lt
  refine ⟨(h.k.setNew (p := ⟨w0.heap.size + 1, 0, none⟩) (by simp) _).setNew (p := ⟨w0.heap.size + 1 + 1, 0, none⟩) (by simp; omega) _, (h.jb.far (by simp; omega) _).far (by simp; omega) _, (h.d0.far (by simp) _).far (by simp; omega) _, (h.d1.set_ 0 a').far (by simp) _, (h.d2.far (by simp) _).set_ 0 b', (h.d3.far (by simp) _).far (by simp) _, ?_, ?_, hlt⟩
  · exact (Below.heap_setCell _ ⟨w0.heap.size + 1 + 1, 0, none⟩ b' _ (by simp)).trans ((Below.heap_setCell W ⟨w0.heap.size + 1, 0, none⟩ a' _ (by simp)).trans h.d4)
  · exact (Below.heap_setCell _ ⟨w0.heap.size + 1 + 1, 0, none⟩ b' _ (by simp)).trans ((Below.heap_setCell W ⟨w0.heap.size + 1, 0, none⟩ a' _ (by simp)).trans h.d5)

/-- The rows stand where a block of the loop's own turns. -/
theorem rows_low {w0 W W' : World} {rv ev : Value} {us : List Value} {rs : List (List UInt8)} (h2 : RR W (w0.heap.size + 6) rv us rs) (h3 : ER W (w0.heap.size + 6) ev rs) {S : Nat → Prop} (hk : Kept S W W') (hS : ∀ k, S k → k < w0.heap.size + 6) : RR W' w0.heap.size rv us rs ∧ ER W' w0.heap.size ev rs := by
  refine ⟨(h2.kept hk (fun k e e' => ?_) (fun u hu k e e' => ?_)).rebase (by omega), (h3.kept hk (fun k e e' => ?_)).rebase (by omega)⟩
  · have := (own_base h2.row e).1; have := hS k e'; omega
  · obtain ⟨b, hb⟩ := h2.at hu
    have := (hb.2 k e).1; have := hS k e'; omega
  · have := (own_base h3 e).1; have := hS k e'; omega

set_option maxRecDepth 100000 in
set_option maxHeartbeats 2000000 in
theorem load_any (J B : Nat) (file : Int) (v : Value) (l : List UInt8) (w : World) (hj : Blk w J 90 (jCells B file nilV nilV false)) (hb : Bs w v l) (hl : l.length ≤ 1000000) :
    Calls Try.prog 62 #[.pointer (some ⟨J, 0, none⟩), v] w (LoadOk J B file l w) := by
  have HJ := Lib.hid hj
  have HB := Lib.hid hb
  have hlt := hj.lt
  have HBS : Hid (∀ W, Kept (Kone J) w W → Bs W v l) := Lib.hid (fun W hk => bs_far hj (jCells_no_byte B file none none 0 0 0 0 false) hb hk)
  obtain ⟨A, cap, hv, -⟩ := hb
  have hmf : ∀ (fn : Fn) (first cap : Array Value) (w : World), (Instr.makeFunc fn first cap).run Try.prog w = .ok (.func fn first cap) w := fun _ _ _ _ => rfl
  clear hj
  subst hv
  refine (callsIn_wide (n := 6)).1 ?_
  refine callsIn_of_wp_marks Try.func62 rfl trivial ?_ rfl
  simp only [Try.ntmps62, List.size_toArray, List.length_cons, List.length_nil, Nat.reduceAdd, Nat.reduceSub, Array.replicate_succ, Array.replicate_zero, List.push_toArray, List.append_toArray, List.nil_append, List.cons_append]
  gi_wp2_with fail
  refine ⟨trivial, (callsIn_wide.2 (framesF_any _ _ A l.length cap rfl)).mono ?_⟩
  rintro e w1 ⟨rfl, hw1⟩
  gi_wp2_with fail
  clear hw1
  have hk1 : Kept Kno w ((((w.alloc (.cells #[.pointer (some ⟨J, 0, none⟩)] 50)).alloc (.cells #[.int .i64 0] 3)).alloc (.cells #[.bool false] 4)).alloc (.cells #[.slice A l.length cap] 30)) := ((((Kept.refl Kno w).alloc _).alloc _).alloc _).alloc _
  have hd0 := (((Blk.new w 50 #[.pointer (some ⟨J, 0, none⟩)]).alloc (.cells #[.int .i64 0] 3)).alloc (.cells #[.bool false] 4)).alloc (.cells #[.slice A l.length cap] 30)
  have hd1 := ((Blk.new (w.alloc (.cells #[.pointer (some ⟨J, 0, none⟩)] 50)) 3 #[.int .i64 0]).alloc (.cells #[.bool false] 4)).alloc (.cells #[.slice A l.length cap] 30)
  have hd2 := (Blk.new ((w.alloc (.cells #[.pointer (some ⟨J, 0, none⟩)] 50)).alloc (.cells #[.int .i64 0] 3)) 4 #[.bool false]).alloc (.cells #[.slice A l.length cap] 30)
  have hd3 := Blk.new (((w.alloc (.cells #[.pointer (some ⟨J, 0, none⟩)] 50)).alloc (.cells #[.int .i64 0] 3)).alloc (.cells #[.bool false] 4)) 30 #[.slice A l.length cap]
  have hN : ((((w.alloc (.cells #[.pointer (some ⟨J, 0, none⟩)] 50)).alloc (.cells #[.int .i64 0] 3)).alloc (.cells #[.bool false] 4)).alloc (.cells #[.slice A l.length cap] 30)).heap.size = w.heap.size + 4 := by simp
  simp only [World.size_alloc] at hd1 hd2 hd3
  generalize ((((w.alloc (.cells #[.pointer (some ⟨J, 0, none⟩)] 50)).alloc (.cells #[.int .i64 0] 3)).alloc (.cells #[.bool false] 4)).alloc (.cells #[.slice A l.length cap] 30)) = W0 at hk1 hd0 hd1 hd2 hd3 hN ⊢
  refine range_load hl rfl rfl HBS.out hN (hk1.mono (fun _ _ h => h.elim)) hlt (HJ.out.kept hk1 (fun h => h)) hd0 hd1 hd2 hd3
    (fun x y => { tmps := #[.pointer (some ⟨J, 0, none⟩), .slice A l.length cap, .pointer (some ⟨w.heap.size, 0, none⟩), undef, .pointer (some ⟨w.heap.size + 1, 0, none⟩), .pointer (some ⟨w.heap.size + 1 + 1, 0, none⟩), x, y,
      .func (.func 78) #[] #[.pointer (some ⟨w.heap.size + 1, 0, none⟩), .pointer (some ⟨w.heap.size + 1 + 1, 0, none⟩)], .slice A l.length cap, .func (.func 85) #[] #[.pointer (some ⟨w.heap.size + 1 + 1 + 1, 0, none⟩)], x, y,
      undef, undef, undef, undef, undef, undef, undef, undef, undef, undef, undef, undef, undef, undef, undef, undef, undef, undef, undef, undef, undef, undef], defers := [] }) ?assign ?body ?done ?pan
  case assign =>
    intro lid x y W K hK
    gi_wp2
    exact hK
  case body =>
    intro lid st rs b x W hI hx hfl
    obtain ⟨rv, ev, us, h1, h2, h3⟩ := hI
    obtain ⟨A1, c1, hxv, -⟩ := hx.1
    subst hxv
    obtain ⟨Ar, cr, hrv⟩ := own_form h2.row
    obtain ⟨Ae, ce, hev⟩ := own_form h3
    have hrl : rs.length ≤ 1000000 := by
      have g1 := frames_ge rs
      rw [frames_snoc, List.length_append] at hfl
      omega
    refine wpIn_block (wpIn_seq ?_)
    refine wpIn_region_any (by kernel_rfl) ?_
    refine grow_recs (I := fun W => LF w W J B file (.slice A l.length cap) rv ev (.int .i64 0) (.bool false) st ∧ RR W (w.heap.size + 6) rv us rs ∧ ER W (w.heap.size + 6) ev rs ∧ RecIn W (w.heap.size + 6) (.slice A1 b.length c1) b)
      (I2 := fun v' W => LF w W J B file (.slice A l.length cap) rv ev (.int .i64 0) (.bool false) st ∧ RR W (w.heap.size + 6) v' (us ++ [.slice A1 b.length c1]) (rs ++ [b]) ∧ ER W (w.heap.size + 6) ev rs)
      (I3 := fun W => ∃ v', LF w W J B file (.slice A l.length cap) v' ev (.int .i64 0) (.bool false) st ∧ RR W (w.heap.size + 6) v' (us ++ [.slice A1 b.length c1]) (rs ++ [b]) ∧ ER W (w.heap.size + 6) ev rs)
      (N := w.heap.size) (J := J) (base := w.heap.size + 6) (m := rs.length) (rv := rv) (xs := us) (y := .int .i64 ((frames (rs ++ [b])).length : Nat)) lid 4 (by kernel_rfl) rfl (by kernel_rfl)
      ⟨_, rfl, rfl, rfl, rfl⟩ ⟨_, rfl, rfl, rfl, rfl⟩ ⟨_, rfl, rfl, rfl, rfl⟩ ⟨_, rfl, rfl, rfl, rfl⟩ ⟨_, rfl, rfl, rfl, rfl⟩ ⟨_, rfl, rfl, rfl, rfl⟩ ⟨_, rfl, rfl, rfl, rfl⟩ ⟨_, rfl, rfl, rfl, rfl⟩ ⟨_, rfl, rfl, rfl, rfl⟩ ⟨_, rfl, rfl, rfl, rfl⟩ ⟨_, rfl, rfl, rfl, rfl⟩
      ?_ ?_ ?_ ?_ ?_ ⟨Ar, cr, hrv⟩ _ _ ?_ rfl rfl rfl rfl rfl ?_
    · rintro W ⟨q1, q2, q3, q4⟩
      exact ⟨q1.d0.cell 0, q1.jb.cell 2, q2.row, q1.size, hrl⟩
    · rintro W W' ⟨q1, q2, q3, q4⟩ hk
      exact ⟨q1.kept0 hk, q2.kept0 hk, q3.kept0 hk, q4.kept0 hk⟩
    · rintro W W' v' ⟨q1, q2, q3, q4⟩ hg hown hat
      obtain ⟨r1, r2⟩ := lf_grown q1 q2.row hg
      exact ⟨r1, q2.grow q4 hg hown, q3.kept r2 (fun k e e' => q2.rv_ev q3 e' e)⟩
    · rintro v' W ⟨q1, q2, q3⟩
      obtain ⟨A', c', hv'⟩ := own_form q2.row
      exact ⟨q1.d0.cell 0, q1.jb.cell 2, q1.jb.frozen 2, A', _, c', hv'⟩
    · rintro v' W ⟨q1, q2, q3⟩
      exact ⟨v', q1.set_rv v', rr_set q1 q2 2 v', er_set q1 q3 2 v'⟩
    · have hkd : Kept Kno W { W with drawn := W.drawn + 1 } := (Kept.refl Kno W).drew
      exact ⟨h1.kept0 hkd, h2.kept0 hkd, h3.kept0 hkd, hx.kept0 hkd⟩
    · rintro a' W' ⟨v', q1, q2, q3⟩ hz e2 e7 hdf
      refine wpIn_region_any (by kernel_rfl) ?_
      refine grow_ends (I := fun W => LF w W J B file (.slice A l.length cap) v' ev (.int .i64 0) (.bool false) st ∧ RR W (w.heap.size + 6) v' (us ++ [.slice A1 b.length c1]) (rs ++ [b]) ∧ ER W (w.heap.size + 6) ev rs)
        (I2 := fun e' W => LF w W J B file (.slice A l.length cap) v' ev (.int .i64 0) (.bool false) st ∧ RR W (w.heap.size + 6) v' (us ++ [.slice A1 b.length c1]) (rs ++ [b]) ∧ ER W (w.heap.size + 6) e' (rs ++ [b]))
        (I3 := fun W => LoadI w J B file (.slice A l.length cap) (.int .i64 0) (.bool false) st (rs ++ [b]) (rs ++ [b]) W)
        (N := w.heap.size) (J := J) (base := w.heap.size + 6) (m := rs.length) (rv := ev) (xs := eVal rs) (y := .int .i64 ((frames (rs ++ [b])).length : Nat)) lid 4 (by kernel_rfl) rfl (by kernel_rfl)
        ⟨_, rfl, rfl, rfl, rfl⟩ ⟨_, rfl, rfl, rfl, rfl⟩ ⟨_, rfl, rfl, rfl, rfl⟩ ⟨_, rfl, rfl, rfl, rfl⟩ ⟨_, rfl, rfl, rfl, rfl⟩ ⟨_, rfl, rfl, rfl, rfl⟩ ⟨_, rfl, rfl, rfl, rfl⟩ ⟨_, rfl, rfl, rfl, rfl⟩ ⟨_, rfl, rfl, rfl, rfl⟩ ⟨_, rfl, rfl, rfl, rfl⟩ ⟨_, rfl, rfl, rfl, rfl⟩
        ?_ ?_ ?_ ?_ ?_ ⟨Ae, ce, hev⟩ _ _ ?_ hz e2 e7 e7 hdf ?_
      · rintro W ⟨q1, q2, q3⟩
        exact ⟨q1.d0.cell 0, q1.jb.cell 3, q3, q1.size, hrl⟩
      · rintro W W' ⟨q1, q2, q3⟩ hk
        exact ⟨q1.kept0 hk, q2.kept0 hk, q3.kept0 hk⟩
      · rintro W W' e' ⟨q1, q2, q3⟩ hg hown hat
        obtain ⟨r1, r2⟩ := lf_grown q1 q3 hg
        refine ⟨r1, q2.kept r2 (fun k e e' => q2.rv_ev q3 e e') (fun u hu k e e' => ?_), ?_⟩
        · obtain ⟨b', hb'⟩ := q2.at hu
          exact q3.u_ev hb' e e'
        · unfold ER
          rw [eVal_snoc, List.length_append]
          exact hown
      · rintro e' W ⟨q1, q2, q3⟩
        obtain ⟨A', c', hv'⟩ := own_form q3
        exact ⟨q1.d0.cell 0, q1.jb.cell 3, q1.jb.frozen 3, A', _, c', hv'⟩
      · rintro e' W ⟨q1, q2, q3⟩
        exact ⟨v', e', _, q1.set_ev e', rr_set q1 q2 3 e', er_set q1 q3 3 e'⟩
      · have hkd : Kept Kno W' { W' with drawn := W'.drawn + 1 } := (Kept.refl Kno W').drew
        exact ⟨q1.kept0 hkd, q2.kept0 hkd, q3.kept0 hkd⟩
      · rintro a2 W2 hI2 _ _ _ _
        exact ⟨rfl, hI2⟩
  case done =>
    rintro st W h0 ⟨rv, ev, us, h1, h2, h3⟩
    have c1 := h1.d1.cell 0
    have c2 := h1.d2.cell 0
    have f1 := h1.d1.frozen 0
    have f2 := h1.d2.frozen 0
    simp only [List.getElem?_toArray, List.getElem?_cons_zero] at c1 c2
    have H1 := Lib.hid h1
    have H2 := Lib.hid h2
    have H3 := Lib.hid h3
    clear h1 h2 h3
    gi_wp2
    have h1 := H1.out.set_ab (.int .i64 l.length) (.bool false)
    have hkk : Kept (fun k => k < w.heap.size + 6) W ((W.setCell ⟨w.heap.size + 1, 0, none⟩ (.int .i64 l.length)).setCell ⟨w.heap.size + 1 + 1, 0, none⟩ (.bool false)) :=
      ((Kept.refl (fun k => k < w.heap.size + 6) W).setIn (p := ⟨w.heap.size + 1, 0, none⟩) (by simp) _).setIn (p := ⟨w.heap.size + 1 + 1, 0, none⟩) (by simp) _
    generalize ((W.setCell ⟨w.heap.size + 1, 0, none⟩ (.int .i64 l.length)).setCell ⟨w.heap.size + 1 + 1, 0, none⟩ (.bool false)) = W2 at h1 hkk ⊢
    refine ⟨by simp, .inl ⟨_, _, rfl, run_takeDeferred h1.d4, ?_⟩⟩
    have hk3 := kept_put W2 (w.heap.size + 4) (.deferred none)
    have hd1 := h1.d1.putObj (l := w.heap.size + 4) (by omega) (.deferred none)
    have hd2 := h1.d2.putObj (l := w.heap.size + 4) (by omega) (.deferred none)
    have hjb := h1.jb.putObj (l := w.heap.size + 4) (by omega) (.deferred none)
    have hk4 : Kept (Kone J) w (W2.putObj (w.heap.size + 4) (.deferred none)) := h1.k.putObj (fun h => absurd h (by omega)) _
    have hrows := rows_low H2.out H3.out (hkk.trans hk3 (fun i _ e => by unfold Kone at e; omega)) (fun k h => h)
    generalize W2.putObj (w.heap.size + 4) (.deferred none) = W3 at hd1 hd2 hjb hk4 hrows ⊢
    refine ⟨by simp, .inr ⟨(fun h => by cases h), _, _, 78, #[.pointer (some ⟨w.heap.size + 1, 0, none⟩), .pointer (some ⟨w.heap.size + 1 + 1, 0, none⟩)], rfl, (by simp [go_sem]), (fun _ _ => trivial), ?_⟩⟩
    refine CallsDIn.mono (loadD_idle _ _ _ W3) ?_
    rintro e u' w'' ⟨rfl, rfl, rfl⟩
    have e1 : w''.cell? ⟨w.heap.size + 1, 0, none⟩ = some (.int .i64 l.length) := hd1.cell 0
    have e2 : w''.cell? ⟨w.heap.size + 1 + 1, 0, none⟩ = some (.bool false) := hd2.cell 0
    refine ⟨.tuple #[.int .i64 l.length, .bool false], ?_, ?_, hk4, rv, ev, us, hjb, hrows.1, hrows.2⟩
    · clear hrows hjb hk4 hd1 hd2 H1 H2 H3 HJ HB HBS
      simp [results, Try.results62, go_sem, e1, e2]
    · have h9 := (scan_any l).2.2.2.2 h0
      simp only [loadAt, h0, h9]
      rfl
  case pan =>
    rintro st W ⟨rv, ev, us, h1, h2, h3⟩
    refine ⟨by simp, .inl ⟨_, _, rfl, run_takeDeferred h1.d4, ?_⟩⟩
    have hk3 := kept_put W (w.heap.size + 4) (.deferred none)
    have hd1 := h1.d1.putObj (l := w.heap.size + 4) (by omega) (.deferred none)
    have hd2 := h1.d2.putObj (l := w.heap.size + 4) (by omega) (.deferred none)
    have hjb := h1.jb.putObj (l := w.heap.size + 4) (by omega) (.deferred none)
    have hk4 : Kept (Kone J) w (W.putObj (w.heap.size + 4) (.deferred none)) := h1.k.putObj (fun h => absurd h (by omega)) _
    have hk5 : Kept (fun k => k < w.heap.size + 6) W (W.putObj (w.heap.size + 4) (.deferred none)) := hk3.mono (fun k _ e => by unfold Kone at e; omega)
    generalize W.putObj (w.heap.size + 4) (.deferred none) = W3 at hd1 hd2 hjb hk4 hk5 ⊢
    refine ⟨by simp, .inr ⟨(fun h => by cases h), _, _, 78, #[.pointer (some ⟨w.heap.size + 1, 0, none⟩), .pointer (some ⟨w.heap.size + 1 + 1, 0, none⟩)], rfl, (by simp [go_sem]), (fun _ _ => trivial), ?_⟩⟩
    refine CallsDIn.mono (loadD_panicking _ (w.heap.size + 1) (w.heap.size + 1 + 1) (loadAt l).1 (loadAt l).2 0 false [] W3 hd1 hd2 (by omega)) ?_
    rintro e u' w'' ⟨rfl, rfl, hc1, hc2, hk6⟩
    have e1 : w''.cell? ⟨w.heap.size + 1, 0, none⟩ = some (.int .i64 ((loadAt l).1 : Nat)) := hc1.cell 0
    have e2 : w''.cell? ⟨w.heap.size + 1 + 1, 0, none⟩ = some (.bool (loadAt l).2) := hc2.cell 0
    have hrows := rows_low h2 h3 (hk5.trans hk6 (fun i _ e => by rcases e with rfl | rfl <;> omega)) (fun k h => h)
    refine ⟨.tuple #[.int .i64 ((loadAt l).1 : Nat), .bool (loadAt l).2], ?_, rfl, hk4.trans hk6 (fun i hi e => by rcases e with rfl | rfl <;> omega), rv, ev, us, hjb.kept hk6 (fun e => by rcases e with e | e <;> omega), hrows.1, hrows.2⟩
    clear hrows hjb hk4 hd1 hd2 h1 h2 h3 HJ HB HBS
    simp [results, Try.results62, go_sem, e1, e2]

end Go.Proofs.Yteoodgcpkgfomaa
