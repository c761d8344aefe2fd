/- PagebreakBreaks returns true for every input, and its arguments read as before. No condition. -/
import Derived.Test.YtemlljgldkkkgaaRow3
import Derived.Test.YtemlljgldkkkgaaLaw3
namespace Go.Proofs.Ytemlljgldkkkgaa
theorem PagebreakBreaks_proved : Rows.PagebreakBreaksSaid :=
  PagebreakBreaks_row fun AL AN AP cL cN cP P AE cE ends AL2 cL2 l w S hR hE hL hl => PagebreakBreaks_any AL AN AP cL cN cP P AE cE ends AL2 cL2 l w S hR hE hL hl
end Go.Proofs.Ytemlljgldkkkgaa
