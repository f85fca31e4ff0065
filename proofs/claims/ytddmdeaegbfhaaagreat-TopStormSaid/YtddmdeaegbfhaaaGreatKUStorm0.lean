/- Part 0 of what the proof of this law rests on: the closed facts of the row, by the kernel. -/
import Derived.Test.YtddmdeaegbfhaaaGreatChecked
import Derived.Test.YtddmdeaegbfhaaaGreatRows
import Derived.JoinedOf
namespace Go.Proofs.YtddmdeaegbfhaaaGreat
set_option linter.all false
set_option maxRecDepth 100000
def rowsL : List FuncId := [4,5,6,8,24,34,39,15,31,40,71,7,12,28,23,36,57,58,106,59,60,107,211,61,109,221,110,222,108,62,111,37,64,63,38,65,112,113,66,67,72,124,125,227,324,126,127,228,325,396,128,229,83,168,114,223,224,68,115,116,118,119,117,226,322,323,225,314,315,391,316,392,393,317,394,395,445,318,319,320,321,120,121,44,69,122,123,70,9,20,32,25,41,73,129,130,230,131,231,326,232,132,233,234,235,133,236,327,134,237,135,238,239,137,136,240,139,138,241,74,75,140,141,142,242,187,243,244,143,245,76,144,246,310,295,196,77,78,145,146,26,42,79,147,148,149,247,248,249,250,251,252,150,151,152,153,154,155,156,157,158,159,160,161,162,43,45,80,33,50,51,52,99,204,100,205,297,382,206,298,383,173,384,186,437,488,487,207,208,209,299,339,385,438,210,212,300,301,302,303,304,386,387,213,82,305,388,402,439,442,440,489,490,455,453,491,518,492,493,452,494,441,495,389,443,444,306,307,185,271,167,257,258,329,397,170,260,261,259,330,398,399,400,446,350,165,256,253,328,308,309,47,81,163,164,254,255,166,84,169,171,172,85,87,184,175,174,262,86,88,176,263,264,90,188,331,332,333,401,447,448,496,519,334,335,177,265,336,266,337,403,449,404,450,405,406,407,451,408,454,409,338,410,178,267,340,411,456,457,436,341,288,343,289,290,379,380,381,291,268,342,344,412,189,345,413,458,497,498,459,499,500,520,528,460,369,418,414,352,415,461,426,501,502,503,521,522,529,531,416,286,373,431,475,476,514,477,478,515,516,526,479,480,481,482,378,464,463,432,462,285,377,433,483,484,434,485,486,517,527,435,470,365,287,417,465,466,504,467,280,364,427,428,367,429,430,474,513,368,468,281,192,190,272,351,353,419,354,420,273,355,274,357,356,421,276,363,282,370,275,358,359,422,469,505,506,523,507,508,524,525,530,509,510,511,512,423,360,279,424,361,362,425,471,472,473,277,366,278,194,95,195,91,179,101,214,197,292,293,215,216,198,294,217,296,102,180,269,346,347,348,349,200,201,181,103,218,311,390,182,270,183,220,312,313,219,53,97,54,55,104,56,105,48,89,13,29,10,27,46,49,92,93,94,191,193,283,371,284,372,374,375,376,96,199,98,202,203,11,14,30,16,21,22,35,17,18]
theorem rowsF : (1 + (Tryz.prog.funcs.toList.map fun g => (Tryz.prog.leadsTo g).length + 1).sum) = 1713 := by kernel_rfl
theorem rowsC : Tryz.prog.closureVia 1713 [4] [] = rowsL := by kernel_rfl
theorem rowsD : Tryz.prog.closure 4 = rowsL := by unfold Program.closure; rw [rowsF]; exact rowsC
theorem rows2 : mapsRowed Tryz.prog = true := by kernel_rfl
theorem rows9 : (Rows.topStormRow.inPlace == Tryz.prog.inPlace 4) = true := by unfold Program.inPlace; rw [rowsD]; kernel_rfl
theorem rows10 : (Rows.topStormRow.unfollowed == Tryz.prog.unfollowed 4) = true := by unfold Program.unfollowed; rw [rowsD]; kernel_rfl
theorem rows11 : (Rows.topStormRow.recurses == Tryz.prog.recurses 4) = true := by unfold Program.recurses Program.unfollowed; rw [rowsD]; kernel_rfl
theorem rows12 : (Rows.topStormRow.named == Tryz.prog.varsNamed 4) = true := by unfold Program.varsNamed; rw [rowsD]; kernel_rfl
theorem rows22 : (Rows.topStormRow.plainKeys == Tryz.prog.plainKeys) = true := by kernel_rfl
theorem rows24 : Tryz.prog.stopsHeard = true := by kernel_rfl
theorem rows25 : Tryz.prog.mayEnter = true := by kernel_rfl
theorem rowsA {x y : Bool} (h : x = true) (k : y = true) : (x && y) = true := by rw [h, k]; rfl
theorem rowsAll (h : laidOutB Tryz.prog = true) : joinedFacts Tryz.prog 4 Tryz.f4 Rows.topStormSpec Rows.topStormRow = true := by
  unfold joinedFacts
  exact (rowsA (rowsA (rowsA (rowsA (rowsA (rowsA (rowsA (rowsA (rowsA (rowsA (rowsA (rowsA (rowsA (rowsA (rowsA (rowsA (rowsA (rowsA (rowsA (rowsA (rowsA (rowsA (rowsA (rowsA (rowsA (rowsA (rowsA (rowsA (rowsA (rowsA (rowsA (by kernel_rfl) h) rows2) (by kernel_rfl)) (by kernel_rfl)) (by kernel_rfl)) (by kernel_rfl)) (by kernel_rfl)) (by kernel_rfl)) rows9) rows10) rows11) rows12) (by kernel_rfl)) (by kernel_rfl)) (by kernel_rfl)) (by kernel_rfl)) (by kernel_rfl)) (by kernel_rfl)) (by kernel_rfl)) (by kernel_rfl)) (by kernel_rfl)) rows22) (by kernel_rfl)) rows24) rows25) (by kernel_rfl)) (by kernel_rfl)) (by kernel_rfl)) (by kernel_rfl)) (by kernel_rfl)) (by kernel_rfl))
end Go.Proofs.YtddmdeaegbfhaaaGreat
