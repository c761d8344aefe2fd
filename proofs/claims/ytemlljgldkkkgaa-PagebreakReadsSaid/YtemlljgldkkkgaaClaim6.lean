/- PagebreakReads returns true for every input, and its arguments read as before. No condition. -/
import Derived.Test.YtemlljgldkkkgaaRow6
import Derived.Test.YtemlljgldkkkgaaLaw6
namespace Go.Proofs.Ytemlljgldkkkgaa
theorem PagebreakReads_proved : Rows.PagebreakReadsSaid :=
  PagebreakReads_row fun AL AN AP cL cN cP P x y AE cE ends n wi o w S hR hE => PagebreakReads_any AL AN AP cL cN cP P x y AE cE ends n wi o w S hR hE
end Go.Proofs.Ytemlljgldkkkgaa
