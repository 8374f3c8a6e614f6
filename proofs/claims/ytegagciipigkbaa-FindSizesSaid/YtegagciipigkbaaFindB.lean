/-
  Find: which nodes are taken.
-/
import Derived.Test.YtegagciipigkbaaFindA
set_option linter.all false
namespace Go.Proofs.Ytegagciipigkbaa
open Go Go.Eng

/-- what 'fitting' says of a node -/
def FitN (n : Nd) : Prop := n.names.length ≤ 20 ∧ ∀ x ∈ n.names, x.name.size ≤ 14

structure Fit (l : List Nd) : Prop where
  rise : ∀ i j (hi : i < l.length) (hj : j < l.length), i < j → l[i].id < l[j].id
  node : ∀ n ∈ l, FitN n
  few : l.length ≤ 24

theorem Fit.nil : Fit [] := ⟨fun i j hi => absurd hi (by simp), fun n h => (nomatch h), by simp⟩

/-- up to a place -/
def FitTo (l : List Nd) (i : Nat) : Prop := (∀ j (hj : j < l.length), j < i → FitN l[j]) ∧ ∀ j (hj : j + 1 < l.length), j + 1 < i → l[j].id < l[j + 1].id

theorem FitTo.fit {l : List Nd} (h : FitTo l l.length) (few : l.length ≤ 24) : Fit l := by
  refine ⟨?_, ?_, few⟩
  · intro i j hi hj hij
    have : ∀ d, ∀ (hj : i + d + 1 < l.length), l[i].id < l[i + d + 1].id := by
      intro d
      induction d with
      | zero => intro hj; exact h.2 i hj hj
      | succ d ih =>
        intro hj
        have h1 := ih (by omega)
        have h2 := h.2 (i + d + 1) (by omega) (by omega)
        have h3 : l[i + (d + 1) + 1] = l[i + d + 1 + 1] := rfl
        rw [h3]; omega
    have h4 := this (j - i - 1) (by omega)
    have h5 : i + (j - i - 1) + 1 = j := by omega
    simp only [h5] at h4
    exact h4
  · intro n hn
    obtain ⟨j, hj, rfl⟩ := List.mem_iff_getElem.1 hn
    exact h.1 j hj hj

theorem fitting_spec (l : List Nd) (a : Option Addr) (n c : Nat) (h : Heap) (S : Sl h a n c l) :
    CallH Try.prog 6 [.slice a n c] h (fun v h' => Keeps [] h h' ∧ ∃ l', rep h' [v] l' ∧ Fit l') := by
  refine call_of hmix Try.func6 rfl ok6 (by simp [Try.f6]) ?_
  conv => whnf
  have hl := S.hlen
  have hb := S.hbig
  have hcap := S.hcap
  refine SliceR.i 0 (min n 24) rfl (by split <;> omega) (Nat.zero_le _) (by omega) ?_
  conv => whnf
  obtain ⟨A, n2, c2, l2, eA, en, ec, S2, few⟩ : ∃ A n2 c2, ∃ l2 : List Nd, A = slA a c 0 5 ∧ n2 = min n 24 - 0 ∧ c2 = c - 0 ∧ Sl h A n2 c2 l2 ∧ l2.length ≤ 24 :=
    ⟨_, _, _, _, rfl, rfl, rfl, S.part (l := 0) (r := min n 24) (Nat.zero_le _) (by omega), by simp; omega⟩
  refine LoopR.on [0, 3] [] (fun i : Nat => [(0, .v (.slice A n2 c2)), (3, .v (.int .i64 (i : Int)))]) (fun _ => []) (fun i h' => Keeps [] h h' ∧ i ≤ n2 ∧ FitTo l2 i) (fun i => n2 - i) 0 ?_ ?_
  · conv => whnf
    subst eA en ec
    exact ⟨0, rfl, rfl, rfl, Keeps.refl _ _, by omega, fun j _ h => absurd h (by omega), fun j _ h => absurd h (by omega)⟩
  · rintro i h1 ⟨k1, hi, F⟩
    have S3 := S2.keep k1
    have hl2 := S3.hlen
    conv => whnf
    refine IfR.i (fun hc => ?_) (fun hc => ?_)
    · have hi1 : i < l2.length := by simp at hc; omega
      obtain ⟨b0, o0, ha0, _, ⟨a0, n0, c0, rfl, _, N0⟩, hc0⟩ := S3.at_ (i - 1) (by omega)
      obtain ⟨b1, o1, ha1, _, ⟨a1, n1, c1, rfl, _, N1⟩, hc1⟩ := S3.at_ i hi1
      conv => whnf
      refine IdxS.u (i - 1) b0 o0 (fun hp => ?_) ?_
      · simp at hp
        exact ⟨by rw [wrapN (n := i - 1) (by omega) (by omega)], by omega, ha0⟩
      conv => whnf
      refine LoadR.u _ (fun hp => hc0 0 (by simp)) ?_
      conv => whnf
      refine IdxS.u i b1 o1 (fun hp => ⟨rfl, by omega, ha1⟩) ?_
      conv => whnf
      refine LoadR.u _ (fun hp => hc1 0 (by simp)) ?_
      conv => whnf
      refine IdxS.u i b1 o1 (fun hp => ⟨rfl, by omega, ha1⟩) ?_
      conv => whnf
      refine LoadR.u _ (fun hp => hc1 4 (by simp)) ?_
      conv => whnf
      refine IfR.i (fun hd => ?_) (fun hd => ?_)
      · conv => whnf
        exact ⟨k1, [], rep_slice.2 Sl.nil, Fit.nil⟩
      · conv => whnf
        have hd1 : (0 < i → l2[i - 1].id < l2[i].id) ∧ n1 ≤ 20 := by
          simp [bif_and, bif_or] at hd
          exact ⟨fun h => by have := hd.1; omega, by omega⟩
        refine LoopR.on [0, 3, 4] [] (fun k : Nat => [(0, .v (.slice A n2 c2)), (3, .v (.int .i64 (i : Int))), (4, .v (.int .i64 (k : Int)))]) (fun _ => [])
          (fun k h' => Keeps [] h1 h' ∧ k ≤ n1 ∧ ∀ j (hj : j < l2[i].names.length), j < k → l2[i].names[j].name.size ≤ 14) (fun k => n1 - k) 0 ?_ ?_
        · conv => whnf
          exact ⟨0, rfl, rfl, rfl, Keeps.refl _ _, by omega, fun j _ h => absurd h (by omega)⟩
        · rintro k h2 ⟨k2, hk, G⟩
          have hc2 := hc1.keep k2
          have N2 := N1.keep k2
          have hn2 := N2.hlen
          have hb2 := N2.hbig
          conv => whnf
          refine IdxS.i i rfl (by omega) ha1 ?_
          conv => whnf
          refine LoadR.i (hc2 4 (by simp)) ?_
          conv => whnf
          refine IfR.i (fun hc => ?_) (fun hc => ?_)
          · have hk1 : k < l2[i].names.length := by simp at hc; omega
            obtain ⟨bx, ox, hax, _, ⟨rfl, hx1, hx2⟩, hcx⟩ := N2.at_ k hk1
            obtain ⟨by_, oy, hay, _, ⟨rfl, hy1, hy2⟩, hcy⟩ := N2.at_ (k - 1) (by omega)
            conv => whnf
            refine IdxS.i i rfl (by omega) ha1 ?_
            conv => whnf
            refine LoadR.i (hc2 4 (by simp)) ?_
            conv => whnf
            refine IdxS.i k rfl (by omega) hax ?_
            conv => whnf
            refine LoadR.i (hcx 0 (by simp)) ?_
            conv => whnf
            refine CallR.i (right_spec _ _ hx1) fun v h3 k3 hv => ?_
            subst hv
            have hc3 := hc2.keep k3
            have hcx3 := hcx.keep k3
            have hcy3 := hcy.keep k3
            conv => whnf
            refine IdxS.u i b1 o1 (fun hp => ⟨rfl, by omega, ha1⟩) ?_
            conv => whnf
            refine LoadR.u _ (fun hp => hc3 4 (by simp)) ?_
            conv => whnf
            refine IdxS.u (k - 1) by_ oy (fun hp => ?_) ?_
            · simp at hp
              exact ⟨by rw [wrapN (n := k - 1) (by omega) (by omega)], by omega, hay⟩
            conv => whnf
            refine LoadR.u _ (fun hp => hcy3 0 (by simp)) ?_
            conv => whnf
            refine IdxS.u i b1 o1 (fun hp => ⟨rfl, by omega, ha1⟩) ?_
            conv => whnf
            refine LoadR.u _ (fun hp => hc3 4 (by simp)) ?_
            conv => whnf
            refine IdxS.u k bx ox (fun hp => ⟨rfl, by omega, hax⟩) ?_
            conv => whnf
            refine LoadR.u _ (fun hp => hcx3 0 (by simp)) ?_
            conv => whnf
            have stop : ∀ h4, Keeps [] h3 h4 → Keeps [] h h4 := fun h4 k4 => k1.trans (k2.trans (k3.trans k4))
            have more : rightP l2[i].names[k].name = true → ∀ j (hj : j < l2[i].names.length), j < k + 1 → l2[i].names[j].name.size ≤ 14 := by
              intro hr j hj hjk
              rcases Nat.lt_succ_iff_lt_or_eq.1 hjk with h | rfl
              · exact G j hj h
              · unfold rightP at hr
                simp at hr
                exact hr.2.1.1.2
            refine IfR.i (fun hq => ?_) (fun hq => ?_)
            · conv => whnf
              refine CallR.i (ahead_spec _ _ _ hy1 hx1) fun v h4 k4 hv => ?_
              obtain ⟨bb, rfl⟩ := hv
              conv => whnf
              refine IfR.i (fun hq2 => ?_) (fun hq2 => ?_)
              · conv => whnf
                exact ⟨stop _ k4, [], rep_slice.2 Sl.nil, Fit.nil⟩
              · conv => whnf
                refine ⟨n1 - (k + 1), by omega, ?_⟩
                conv => whnf
                exact ⟨k + 1, rfl, by rw [wrapN (n := k + 1) (by simp) (by omega)], rfl, k2.trans (k3.trans k4), by omega, more (by simp [bif_or] at hq2; exact hq2.1)⟩
            · conv => whnf
              refine IfR.i (fun hq2 => ?_) (fun hq2 => ?_)
              · conv => whnf
                exact ⟨stop _ (Keeps.refl _ _), [], rep_slice.2 Sl.nil, Fit.nil⟩
              · conv => whnf
                refine ⟨n1 - (k + 1), by omega, ?_⟩
                conv => whnf
                exact ⟨k + 1, rfl, by rw [wrapN (n := k + 1) (by simp) (by omega)], rfl, k2.trans k3, by omega, more (by simp [bif_or] at hq2; exact hq2.1)⟩
          · conv => whnf
            have hk1 : k = l2[i].names.length := by simp at hc; omega
            refine ⟨n2 - (i + 1), by omega, ?_⟩
            conv => whnf
            refine ⟨i + 1, rfl, by rw [wrapN (n := i + 1) (by simp) (by omega)], rfl, k1.trans k2, by omega, fun j hj hji => ?_, fun j hj hji => ?_⟩
            · rcases Nat.lt_succ_iff_lt_or_eq.1 hji with h | rfl
              · exact F.1 j hj h
              · refine ⟨by omega, fun x hx => ?_⟩
                obtain ⟨q, hq, rfl⟩ := List.mem_iff_getElem.1 hx
                exact G q hq (by omega)
            · rcases Nat.lt_succ_iff_lt_or_eq.1 hji with h | rfl
              · exact F.2 j hj h
              · have := hd1.1 (by omega)
                simpa using this
    · conv => whnf
      have : i = l2.length := by simp at hc; omega
      subst this
      exact ⟨k1, l2, rep_slice.2 S3, F.fit few⟩
end Go.Proofs.Ytegagciipigkbaa
