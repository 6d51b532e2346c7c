/-
  Network: a network beside a network of the reference: neither's calls change the other.
-/
import Derived.Test.YtcpidgpjifmimaaNetH2
import Derived.Test.YtcpidgpjifmimaaNetD
namespace Go.Proofs.Ytcpidgpjifmimaa
open Go.RowKit
set_option linter.unusedVariables false

/-- Two rows do not lie in one block. -/
def Apart (v u : Value) : Prop := ∀ k, v.ownBlock = some k → u.ownBlock ≠ some k

theorem rnet_after {w w' : World} {base base' B C : Nat} {v u : Value} {ps qs : List Pk} {lost room gone room' : Int} (h : RNet w base' C u qs gone room') (hn : Net w base B v ps lost room) (hd : Apart v u) (hk : Kept (NK B v) w w') : RNet w' base' C u qs gone room' := by
  refine h.kept hk ?_ ?_ ?_
  · rintro (e | e)
    · exact (Blk.ne_ h.2.1 hn.2.1 (by decide)) e
    · exact own_blk_ne hn.2.2.1 h.2.1 (by decide) e
  · intro k hk' e
    rcases e with e | e
    · subst e; exact own_blk_ne h.2.2.1 hn.2.1 (by decide) hk'
    · exact hd k e hk'
  · intro q hq k hk' e
    rcases e with e | e
    · subst e; exact own_blk_ne (h.2.2.2 q hq).1 hn.2.1 (by decide) hk'
    · rcases hn.2.2.1.2 with ⟨rfl, _⟩ | ⟨g, cap, cur, rfl, _, hh, _⟩
      · simp [Value.ownBlock] at e
      · have : g = k := by simpa [Value.ownBlock] using e
        subst this
        exact own_blk_ne (h.2.2.2 q hq).1 (g := g) (t := 44) (cs := cur) hh (by decide) hk'

theorem net_after {w w' : World} {base base' B C : Nat} {v u : Value} {ps qs : List Pk} {lost room gone room' : Int} (h : Net w base B v ps lost room) (hn : RNet w base' C u qs gone room') (hd : Apart v u) (hk : Kept (NK C u) w w') : Net w' base B v ps lost room := by
  refine h.kept hk ?_ ?_ ?_
  · rintro (e | e)
    · exact (Blk.ne_ h.2.1 hn.2.1 (by decide)) e
    · exact own_blk_ne hn.2.2.1 h.2.1 (by decide) e
  · intro k hk' e
    rcases e with e | e
    · subst e; exact own_blk_ne h.2.2.1 hn.2.1 (by decide) hk'
    · exact hd k hk' e
  · intro q hq k hk' e
    rcases e with e | e
    · subst e; exact own_blk_ne (h.2.2.2 q hq).1 hn.2.1 (by decide) hk'
    · rcases hn.2.2.1.2 with ⟨rfl, _⟩ | ⟨g, cap, cur, rfl, _, hh, _⟩
      · simp [Value.ownBlock] at e
      · have : g = k := by simpa [Value.ownBlock] using e
        subst this
        exact own_blk_ne (h.2.2.2 q hq).1 (g := g) (t := 44) (cs := cur) hh (by decide) hk'

theorem kone_nk {w w' : World} {B : Nat} (v : Value) (h : Kept (Kone B) w w') : Kept (NK B v) w w' := h.mono (fun k _ e => .inl e)

theorem apart_left {w : World} {v v' u : Value} (hd : Apart v u) (hm : MovedW w v v') (hu : ∀ k, u.ownBlock = some k → k < w.heap.size) : Apart v' u := fun k hk hu' => by
  rcases hm k hk with h | h
  · exact hd k h hu'
  · have := hu k hu'; omega
theorem apart_right {w : World} {v u u' : Value} (hd : Apart v u) (hm : MovedW w u u') (hv : ∀ k, v.ownBlock = some k → k < w.heap.size) : Apart v u' := fun k hk hu' => by
  rcases hm k hu' with h | h
  · exact hd k hk h
  · have := hv k hk; omega
theorem apart_eq {v v' u : Value} (hd : Apart v u) (h : v'.ownBlock = v.ownBlock) : Apart v' u := fun k hk => hd k (h ▸ hk)

theorem kept_rnet {w w1 w2 : World} {base B : Nat} {v : Value} {ps : List Pk} {gone room : Int} (hk : Kept Kno w w1) (h : RNet w1 base B v ps gone room) (hb : w.heap.size ≤ base) (hk2 : Kept (NK B v) w1 w2) : Kept Kno w w2 :=
  hk.trans hk2 (fun i hi hN => by
    rcases hN with e | e
    · have := h.1; omega
    · have := (own_base h.2.2.1 e).1; omega)

/-- Both, side by side, with the same messages. -/
structure Both (w : World) (base B C : Nat) (v u : Value) (ps qs : List Pk) (lost room : Int) : Prop where
  net : Net w base B v ps lost room
  ref : RNet w base C u qs lost room
  apart : Apart v u
  abs : ps.map Pk.abs = qs.map Pk.abs
  short : ∀ p ∈ qs, p.l.length ≤ 60

theorem Both.kept0 {w w' : World} {base B C : Nat} {v u : Value} {ps qs : List Pk} {lost room : Int} (h : Both w base B C v u ps qs lost room) (hk : Kept Kno w w') : Both w' base B C v u ps qs lost room :=
  ⟨h.net.kept0 hk, h.ref.kept0 hk, h.apart, h.abs, h.short⟩
theorem Both.len {w : World} {base B C : Nat} {v u : Value} {ps qs : List Pk} {lost room : Int} (h : Both w base B C v u ps qs lost room) : qs.length = ps.length := by
  have := congrArg List.length h.abs
  simpa using this.symm
theorem Both.at_ {w : World} {base B C i : Nat} {v u : Value} {ps qs : List Pk} {lost room : Int} (h : Both w base B C v u ps qs lost room) {p : Pk} (hp : ps[i]? = some p) :
    ∃ A cap, qs[i]? = some ⟨p.dst, .slice A p.l.length cap, p.l⟩ ∧ p.l.length ≤ 60 := by
  have hi : i < qs.length := by rw [h.len]; exact (List.getElem?_eq_some_iff.1 hp).1
  have hq : qs[i]? = some qs[i] := List.getElem?_eq_getElem hi
  have hpq : p.abs = qs[i].abs := by
    have := congrArg (fun l => l[i]?) h.abs
    simpa [hp, hq] using this
  obtain ⟨A, cap, hv⟩ := own_form (h.ref.2.2.2 qs[i] (List.getElem_mem hi)).1
  have hs := h.short qs[i] (List.getElem_mem hi)
  generalize qs[i] = q at hq hpq hv hs
  obtain ⟨qd, qv, ql⟩ := q
  simp only [Pk.abs, Prod.mk.injEq] at hpq hv hs
  obtain ⟨e1, e2⟩ := hpq
  subst e1 e2 hv
  exact ⟨A, cap, hq, hs⟩
theorem erase_abs {ps qs : List Pk} (h : ps.map Pk.abs = qs.map Pk.abs) (i : Nat) : (ps.eraseIdx i).map Pk.abs = (qs.eraseIdx i).map Pk.abs := by
  simp only [List.eraseIdx_eq_take_drop_succ, List.map_append, List.map_take, List.map_drop, h]
end Go.Proofs.Ytcpidgpjifmimaa
