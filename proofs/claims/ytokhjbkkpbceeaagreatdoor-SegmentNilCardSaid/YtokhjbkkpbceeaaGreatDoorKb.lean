/- known() is true: its calls, evaluated by the kernel one after another. -/
import Derived.Test.YtokhjbkkpbceeaaGreatDoorGb
import Derived.Test.YtokhjbkkpbceeaaGreatDoorKa
namespace Go.Em
open Go
set_option maxRecDepth 100000
noncomputable def specM (l : List ME) : Orc := orO (memoB l) (orO (memoO (addM [] memoK)) spec0)
theorem specM_ok {l : List ME} (h : MEOK Go.Proofs.Tryz.prog l) : SpecOK Go.Proofs.Tryz.prog (specM l) := orO_ok (memoB_ok h) (orO_ok (memoO_ok memoK_ok) spec0_ok)
theorem meok_nil : MEOK Go.Proofs.Tryz.prog [] := fun e h => by cases h
theorem meok_snoc {l : List ME} {e : ME} (h : MEOK Go.Proofs.Tryz.prog l) (he : FnS Go.Proofs.Tryz.prog e.f e.args (hvB e.bs) e.c) : MEOK Go.Proofs.Tryz.prog (l ++ [e]) := fun x hx => by
  rcases List.mem_append.1 hx with hx | hx
  · exact h x hx
  · rw [List.mem_singleton.1 hx]; exact he
def l0 : List ME := []
theorem l0_ok : MEOK Go.Proofs.Tryz.prog l0 := meok_nil
theorem e0 : isC me0.c (orcTF tab (specM l0) mt 100000 40 me0.f me0.args (hvB me0.bs)) = true := by kernel_rfl
def l1 : List ME := l0 ++ [me0]
theorem l1_ok : MEOK Go.Proofs.Tryz.prog l1 := meok_snoc l0_ok (me_ok tab_ok (specM_ok l0_ok) mt_ok prog_mixed e0)
theorem e1 : isC me1.c (orcTF tab (specM l1) mt 100000 40 me1.f me1.args (hvB me1.bs)) = true := by kernel_rfl
def l2 : List ME := l1 ++ [me1]
theorem l2_ok : MEOK Go.Proofs.Tryz.prog l2 := meok_snoc l1_ok (me_ok tab_ok (specM_ok l1_ok) mt_ok prog_mixed e1)
theorem e2 : isC me2.c (orcTF tab (specM l2) mt 100000 40 me2.f me2.args (hvB me2.bs)) = true := by kernel_rfl
def l3 : List ME := l2 ++ [me2]
theorem l3_ok : MEOK Go.Proofs.Tryz.prog l3 := meok_snoc l2_ok (me_ok tab_ok (specM_ok l2_ok) mt_ok prog_mixed e2)
theorem e3 : isC me3.c (orcTF tab (specM l3) mt 100000 40 me3.f me3.args (hvB me3.bs)) = true := by kernel_rfl
def l4 : List ME := l3 ++ [me3]
theorem l4_ok : MEOK Go.Proofs.Tryz.prog l4 := meok_snoc l3_ok (me_ok tab_ok (specM_ok l3_ok) mt_ok prog_mixed e3)
theorem e4 : isC me4.c (orcTF tab (specM l4) mt 100000 40 me4.f me4.args (hvB me4.bs)) = true := by kernel_rfl
def l5 : List ME := l4 ++ [me4]
theorem l5_ok : MEOK Go.Proofs.Tryz.prog l5 := meok_snoc l4_ok (me_ok tab_ok (specM_ok l4_ok) mt_ok prog_mixed e4)
theorem e5 : isC me5.c (orcTF tab (specM l5) mt 100000 40 me5.f me5.args (hvB me5.bs)) = true := by kernel_rfl
def l6 : List ME := l5 ++ [me5]
theorem l6_ok : MEOK Go.Proofs.Tryz.prog l6 := meok_snoc l5_ok (me_ok tab_ok (specM_ok l5_ok) mt_ok prog_mixed e5)
theorem e6 : isC me6.c (orcTF tab (specM l6) mt 100000 40 me6.f me6.args (hvB me6.bs)) = true := by kernel_rfl
def l7 : List ME := l6 ++ [me6]
theorem l7_ok : MEOK Go.Proofs.Tryz.prog l7 := meok_snoc l6_ok (me_ok tab_ok (specM_ok l6_ok) mt_ok prog_mixed e6)
theorem e7 : isC me7.c (orcTF tab (specM l7) mt 100000 40 me7.f me7.args (hvB me7.bs)) = true := by kernel_rfl
def l8 : List ME := l7 ++ [me7]
theorem l8_ok : MEOK Go.Proofs.Tryz.prog l8 := meok_snoc l7_ok (me_ok tab_ok (specM_ok l7_ok) mt_ok prog_mixed e7)
theorem e8 : isC me8.c (orcTF tab (specM l8) mt 100000 40 me8.f me8.args (hvB me8.bs)) = true := by kernel_rfl
def l9 : List ME := l8 ++ [me8]
theorem l9_ok : MEOK Go.Proofs.Tryz.prog l9 := meok_snoc l8_ok (me_ok tab_ok (specM_ok l8_ok) mt_ok prog_mixed e8)
theorem e9 : isC me9.c (orcTF tab (specM l9) mt 100000 40 me9.f me9.args (hvB me9.bs)) = true := by kernel_rfl
def l10 : List ME := l9 ++ [me9]
theorem l10_ok : MEOK Go.Proofs.Tryz.prog l10 := meok_snoc l9_ok (me_ok tab_ok (specM_ok l9_ok) mt_ok prog_mixed e9)
theorem e10 : isC me10.c (orcTF tab (specM l10) mt 100000 40 me10.f me10.args (hvB me10.bs)) = true := by kernel_rfl
def l11 : List ME := l10 ++ [me10]
theorem l11_ok : MEOK Go.Proofs.Tryz.prog l11 := meok_snoc l10_ok (me_ok tab_ok (specM_ok l10_ok) mt_ok prog_mixed e10)
theorem e11 : isC me11.c (orcTF tab (specM l11) mt 100000 40 me11.f me11.args (hvB me11.bs)) = true := by kernel_rfl
def l12 : List ME := l11 ++ [me11]
theorem l12_ok : MEOK Go.Proofs.Tryz.prog l12 := meok_snoc l11_ok (me_ok tab_ok (specM_ok l11_ok) mt_ok prog_mixed e11)
theorem e12 : isC me12.c (orcTF tab (specM l12) mt 100000 40 me12.f me12.args (hvB me12.bs)) = true := by kernel_rfl
def l13 : List ME := l12 ++ [me12]
theorem l13_ok : MEOK Go.Proofs.Tryz.prog l13 := meok_snoc l12_ok (me_ok tab_ok (specM_ok l12_ok) mt_ok prog_mixed e12)
theorem e13 : isC me13.c (orcTF tab (specM l13) mt 100000 40 me13.f me13.args (hvB me13.bs)) = true := by kernel_rfl
def l14 : List ME := l13 ++ [me13]
theorem l14_ok : MEOK Go.Proofs.Tryz.prog l14 := meok_snoc l13_ok (me_ok tab_ok (specM_ok l13_ok) mt_ok prog_mixed e13)
theorem e14 : isC me14.c (orcTF tab (specM l14) mt 100000 40 me14.f me14.args (hvB me14.bs)) = true := by kernel_rfl
def l15 : List ME := l14 ++ [me14]
theorem l15_ok : MEOK Go.Proofs.Tryz.prog l15 := meok_snoc l14_ok (me_ok tab_ok (specM_ok l14_ok) mt_ok prog_mixed e14)
theorem e15 : isC me15.c (orcTF tab (specM l15) mt 100000 40 me15.f me15.args (hvB me15.bs)) = true := by kernel_rfl
def l16 : List ME := l15 ++ [me15]
theorem l16_ok : MEOK Go.Proofs.Tryz.prog l16 := meok_snoc l15_ok (me_ok tab_ok (specM_ok l15_ok) mt_ok prog_mixed e15)
theorem e16 : isC me16.c (orcTF tab (specM l16) mt 100000 40 me16.f me16.args (hvB me16.bs)) = true := by kernel_rfl
def l17 : List ME := l16 ++ [me16]
theorem l17_ok : MEOK Go.Proofs.Tryz.prog l17 := meok_snoc l16_ok (me_ok tab_ok (specM_ok l16_ok) mt_ok prog_mixed e16)
theorem e17 : isC me17.c (orcTF tab (specM l17) mt 100000 40 me17.f me17.args (hvB me17.bs)) = true := by kernel_rfl
def l18 : List ME := l17 ++ [me17]
theorem l18_ok : MEOK Go.Proofs.Tryz.prog l18 := meok_snoc l17_ok (me_ok tab_ok (specM_ok l17_ok) mt_ok prog_mixed e17)
theorem e18 : isC me18.c (orcTF tab (specM l18) mt 100000 40 me18.f me18.args (hvB me18.bs)) = true := by kernel_rfl
def l19 : List ME := l18 ++ [me18]
theorem l19_ok : MEOK Go.Proofs.Tryz.prog l19 := meok_snoc l18_ok (me_ok tab_ok (specM_ok l18_ok) mt_ok prog_mixed e18)
theorem e19 : isC me19.c (orcTF tab (specM l19) mt 100000 40 me19.f me19.args (hvB me19.bs)) = true := by kernel_rfl
def l20 : List ME := l19 ++ [me19]
theorem l20_ok : MEOK Go.Proofs.Tryz.prog l20 := meok_snoc l19_ok (me_ok tab_ok (specM_ok l19_ok) mt_ok prog_mixed e19)
theorem e20 : isC me20.c (orcTF tab (specM l20) mt 100000 40 me20.f me20.args (hvB me20.bs)) = true := by kernel_rfl
def l21 : List ME := l20 ++ [me20]
theorem l21_ok : MEOK Go.Proofs.Tryz.prog l21 := meok_snoc l20_ok (me_ok tab_ok (specM_ok l20_ok) mt_ok prog_mixed e20)
theorem e21 : isC me21.c (orcTF tab (specM l21) mt 100000 40 me21.f me21.args (hvB me21.bs)) = true := by kernel_rfl
def l22 : List ME := l21 ++ [me21]
theorem l22_ok : MEOK Go.Proofs.Tryz.prog l22 := meok_snoc l21_ok (me_ok tab_ok (specM_ok l21_ok) mt_ok prog_mixed e21)
theorem e22 : isC me22.c (orcTF tab (specM l22) mt 100000 40 me22.f me22.args (hvB me22.bs)) = true := by kernel_rfl
def l23 : List ME := l22 ++ [me22]
theorem l23_ok : MEOK Go.Proofs.Tryz.prog l23 := meok_snoc l22_ok (me_ok tab_ok (specM_ok l22_ok) mt_ok prog_mixed e22)
theorem e23 : isC me23.c (orcTF tab (specM l23) mt 100000 40 me23.f me23.args (hvB me23.bs)) = true := by kernel_rfl
def l24 : List ME := l23 ++ [me23]
theorem l24_ok : MEOK Go.Proofs.Tryz.prog l24 := meok_snoc l23_ok (me_ok tab_ok (specM_ok l23_ok) mt_ok prog_mixed e23)
theorem e24 : isC me24.c (orcTF tab (specM l24) mt 100000 40 me24.f me24.args (hvB me24.bs)) = true := by kernel_rfl
def l25 : List ME := l24 ++ [me24]
theorem l25_ok : MEOK Go.Proofs.Tryz.prog l25 := meok_snoc l24_ok (me_ok tab_ok (specM_ok l24_ok) mt_ok prog_mixed e24)
theorem e25 : isC me25.c (orcTF tab (specM l25) mt 100000 40 me25.f me25.args (hvB me25.bs)) = true := by kernel_rfl
def l26 : List ME := l25 ++ [me25]
theorem l26_ok : MEOK Go.Proofs.Tryz.prog l26 := meok_snoc l25_ok (me_ok tab_ok (specM_ok l25_ok) mt_ok prog_mixed e25)
theorem e26 : isC me26.c (orcTF tab (specM l26) mt 100000 40 me26.f me26.args (hvB me26.bs)) = true := by kernel_rfl
def l27 : List ME := l26 ++ [me26]
theorem l27_ok : MEOK Go.Proofs.Tryz.prog l27 := meok_snoc l26_ok (me_ok tab_ok (specM_ok l26_ok) mt_ok prog_mixed e26)
theorem e27 : isC me27.c (orcTF tab (specM l27) mt 100000 40 me27.f me27.args (hvB me27.bs)) = true := by kernel_rfl
def l28 : List ME := l27 ++ [me27]
theorem l28_ok : MEOK Go.Proofs.Tryz.prog l28 := meok_snoc l27_ok (me_ok tab_ok (specM_ok l27_ok) mt_ok prog_mixed e27)
def meN : ME := ⟨9, [], [], ⟨.b true, [], []⟩⟩
theorem eN : isC meN.c (orcTF tab (specM l28) mt 100000 40 meN.f meN.args (hvB meN.bs)) = true := by kernel_rfl
theorem hvB_nil : hvB [] = hvE := rfl
/-- known() returns true. -/
theorem known_fns (H : Hv) : FnS Go.Proofs.Tryz.prog 9 [] H ⟨.b true, [], []⟩ := by
  have h : FnS Go.Proofs.Tryz.prog meN.f meN.args (hvB meN.bs) meN.c := me_ok tab_ok (specM_ok l28_ok) mt_ok prog_mixed eN
  exact FnS.lift h rfl rfl H
end Go.Em
