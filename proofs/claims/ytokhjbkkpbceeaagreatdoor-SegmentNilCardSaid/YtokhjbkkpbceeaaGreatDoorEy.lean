/- The abstract machine: code, its soundness. -/
import Derived.Test.YtokhjbkkpbceeaaGreatDoorEx
namespace Go.Em
open Go
set_option linter.unusedSimpArgs false
set_option linter.unusedVariables false

theorem iterL_sound {A : Amb} {P : Program} {code : Code} {f : St → Option (XE × St)} {rr : Option Nat} {dp : Nat} (h : Comes A rr dp P code f) : ∀ (k : Nat) (ι : Emb) (s s' : St) (e : XE) (a : Act) (w : World), SR A ι s a w → iterL f k s = some (e, s') → ∀ (Q : Exit → Act → World → Prop),
    (∀ κ a' w', SR A κ s' a' w' → Ext ι s.m.hv w κ s'.m.hv w' → Mk w a a' w' → Q e.out a' w') → Code.roundsIn (Fz rr) dp P code Q k a w
  | 0, ι, s, s', e, a, w, hs, he, Q, hq => by simp [iterL] at he
  | k + 1, ι, s, s', e, a, w, hs, he, Q, hq => by
    simp only [iterL] at he
    rw [roundsIn_succ]
    split at he
    · rename_i s1 h1
      exact h ι s s1 .n a w hs h1 _ fun κ a' w' g1 g2 g3 => iterL_sound h k κ s1 s' e a' w' g1 he Q fun μ a2 w2 k1 k2 k3 => hq μ a2 w2 k1 (g2.trans k2) (g3.trans g1.h k2 g2.size k3)
    · rename_i hne
      refine h ι s s' e a w hs he _ fun κ a' w' g1 g2 g3 => ?_
      have := hq κ a' w' g1 g2 g3
      cases e with
      | n => exact absurd he (hne s')
      | x id => exact this
      | r => exact this

theorem iterL_ends {f : St → Option (XE × St)} : ∀ (k : Nat) (s s' : St) (e : XE), iterL f k s = some (e, s') → e ≠ .n
  | 0, s, s', e, h => by simp [iterL] at h
  | k + 1, s, s', e, h => by
    simp only [iterL] at h
    split at h
    · exact iterL_ends k _ _ _ h
    · rename_i hne
      rintro rfl
      exact hne s' h

theorem exC_sound {A : Amb} (hA : AmbOK A) {P : Program} {orc : Orc} {mt : Meth} (ho : OrcOK P A orc) (hmt : MethOK P mt) (hmix : P.follows .mixedOrders = true) (F : Nat) {sub : Sub} (hsub : SubOK P sub) :
    ∀ (c : IC) (code : Code), chkCode P c code = true → ∀ (rr : Option Nat) (dp : Nat), ((rr = none ∧ A = noAmb) ∨ noRng c = true) → Comes A rr dp P code (exC orc mt F sub c) := by
  intro c
  induction c with
  | skip =>
    intro code hc rr dp hr ι s s' e a w hs he Q hq
    simp [exC] at he
    obtain ⟨rfl, rfl⟩ := he
    have := hq ι a w hs (.refl _ _ _) (.same rfl)
    cases code <;> simp only [chkCode] at hc <;> (try (cases hc; done))
    · exact wpIn_skip this
    · exact wpIn_label this
  | reg ops =>
    intro code hc rr dp hr ι s s' e a w hs he Q hq
    simp only [exC] at he
    split at he <;> (try (cases he; done))
    rename_i s1 h1
    simp at he
    obtain ⟨rfl, rfl⟩ := he
    cases code <;> (try simp only [chkCode] at hc) <;> (try (cases hc; done))
    rename_i id ops' draw
    cases draw <;> simp only [chkCode] at hc <;> (try (cases hc; done))
    exact reg_sound hA ho hmt hc hs h1 fun κ a' w' g1 g2 g3 => hq κ a' w' g1 g2 (.same g3)
  | dreg nA ds =>
    intro code hc rr dp hr ι s s' e a w hs he Q hq
    simp only [exC] at he
    split at he <;> (try (cases he; done))
    rename_i s1 h1
    simp at he
    obtain ⟨rfl, rfl⟩ := he
    cases code <;> (try simp only [chkCode] at hc) <;> (try (cases hc; done))
    rename_i id ops' draw
    cases draw <;> simp only [chkCode] at hc <;> (try (cases hc; done))
    exact dreg_sound hA ho hmt hmix hc hs h1 fun κ a' w' g1 g2 g3 => hq κ a' w' g1 g2 (.same g3)
  | seq x y ihx ihy =>
    intro code hc rr dp hr ι s s' e a w hs he Q hq
    cases code <;> simp only [chkCode] at hc <;> (try (cases hc; done))
    rename_i c1 c2
    simp only [Bool.and_eq_true] at hc
    simp only [exC] at he
    refine wpIn_seq ?_
    split at he
    · rename_i s1 h1
      exact ihx c1 hc.1 rr dp (hr.imp (fun h => h) fun h => by simp only [noRng, Bool.and_eq_true] at h; exact h.1) ι s s1 .n a w hs h1 _ fun κ a' w' g1 g2 g3 => ihy c2 hc.2 rr dp (hr.imp (fun h => h) fun h => by simp only [noRng, Bool.and_eq_true] at h; exact h.2) κ s1 s' e a' w' g1 he Q fun μ a2 w2 k1 k2 k3 => hq μ a2 w2 k1 (g2.trans k2) (g3.trans g1.h k2 g2.size k3)
    · rename_i hne
      refine ihx c1 hc.1 rr dp (hr.imp (fun h => h) fun h => by simp only [noRng, Bool.and_eq_true] at h; exact h.1) ι s s' e a w hs he _ fun κ a' w' g1 g2 g3 => ?_
      have := hq κ a' w' g1 g2 g3
      cases e with
      | n => exact absurd he (hne s')
      | x id => exact this
      | r => exact this
  | cond c x y ihx ihy =>
    intro code hc rr dp hr ι s s' e a w hs he Q hq
    cases code <;> simp only [chkCode] at hc <;> (try (cases hc; done))
    rename_i o c1 c2
    simp only [Bool.and_eq_true] at hc
    obtain ⟨h0, h1, h2⟩ := hc
    have sc := (opd_sound hs.t h0).1
    simp only [exC] at he
    split at he
    · rename_i hb
      rw [hb] at sc
      generalize hx : a.eval o = v at sc
      cases sc
      exact wpIn_cond_true hx (ihx c1 h1 rr dp (hr.imp (fun h => h) fun h => by simp only [noRng, Bool.and_eq_true] at h; exact h.1) ι s s' e a w hs he Q hq)
    · rename_i hb
      rw [hb] at sc
      generalize hx : a.eval o = v at sc
      cases sc
      exact wpIn_cond_false hx (ihy c2 h2 rr dp (hr.imp (fun h => h) fun h => by simp only [noRng, Bool.and_eq_true] at h; exact h.2) ι s s' e a w hs he Q hq)
    · cases he
  | block id x ihx =>
    intro code hc rr dp hr ι s s' e a w hs he Q hq
    cases code <;> simp only [chkCode] at hc <;> (try (cases hc; done))
    rename_i id' c1
    simp only [Bool.and_eq_true, Nat.beq_eq] at hc
    obtain ⟨rfl, hc⟩ := hc
    refine wpIn_block ?_
    simp only [exC] at he
    split at he
    · rename_i i s1 h1
      by_cases hi : i = id
      · subst hi
        simp at he
        obtain ⟨rfl, rfl⟩ := he
        refine ihx c1 hc rr dp (hr.imp (fun h => h) fun h => h) ι s s1 _ a w hs h1 _ fun κ a' w' g1 g2 g3 => ?_
        show (if i = i then Q .normal a' w' else _)
        rw [if_pos rfl]
        exact hq κ a' w' g1 g2 g3
      · simp [beqF hi] at he
        obtain ⟨rfl, rfl⟩ := he
        refine ihx c1 hc rr dp (hr.imp (fun h => h) fun h => h) ι s s1 _ a w hs h1 _ fun κ a' w' g1 g2 g3 => ?_
        show (if i = id then Q .normal a' w' else Q (.exit i) a' w')
        rw [if_neg hi]
        exact hq κ a' w' g1 g2 g3
    · rename_i hne
      refine ihx c1 hc rr dp (hr.imp (fun h => h) fun h => h) ι s s' e a w hs he _ fun κ a' w' g1 g2 g3 => ?_
      have := hq κ a' w' g1 g2 g3
      cases e with
      | n => exact this
      | x i => exact absurd he (hne i s')
      | r => exact this
  | loop x ihx =>
    intro code hc rr dp hr ι s s' e a w hs he Q hq
    cases code <;> simp only [chkCode] at hc <;> (try (cases hc; done))
    rename_i c1
    exact wpIn_loop_rounds F (iterL_sound (ihx c1 hc rr dp (hr.imp (fun h => h) fun h => h)) F ι s s' e a w hs he Q hq)
  | exit id =>
    intro code hc rr dp hr ι s s' e a w hs he Q hq
    cases code <;> simp only [chkCode] at hc <;> (try (cases hc; done))
    rename_i id'
    simp only [Nat.beq_eq] at hc
    subst hc
    simp [exC] at he
    obtain ⟨rfl, rfl⟩ := he
    exact wpIn_exit (hq ι a w hs (.refl _ _ _) (.same rfl))
  | ret =>
    intro code hc rr dp hr ι s s' e a w hs he Q hq
    cases code <;> simp only [chkCode] at hc <;> (try (cases hc; done))
    simp [exC] at he
    obtain ⟨rfl, rfl⟩ := he
    exact wpIn_ret (hq ι a w hs (.refl _ _ _) (.same rfl))
  | rng g ps asg body iha ihb =>
    intro code hc rr dp hr ι s s' e a w hs he Q hq
    cases code <;> simp only [chkCode] at hc <;> (try (cases hc; done))
    rename_i o qs c d
    simp only [Bool.and_eq_true] at hc
    obtain ⟨⟨⟨⟨h1, h2⟩, h3⟩, h4⟩, h5, h6⟩ := hc
    rcases hr with ⟨rfl, rfl⟩ | hr
    · simp only [exC] at he
      split at he <;> (try (cases he; done))
      rename_i s1 he1
      simp at he
      obtain ⟨rfl, rfl⟩ := he
      exact rng_sound ho hsub h1 (natsEq_spec h2) (fun l dp => iha c h5 (some l) dp (.inr h3)) (fun l dp => ihb d h6 (some l) dp (.inr h4)) (fun s e s' h => exC_base hsub.base asg s s' e h) (fun s e s' h => exC_base hsub.base body s s' e h) hs he1 hq
    · simp [noRng] at hr
  | bad => intro code hc rr dp hr ι s s' e a w hs he; simp [exC] at he

end Go.Em
