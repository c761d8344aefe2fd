/- PagebreakBest returns true for every input, and its arguments read as before. No condition. -/
import Derived.Test.YtemlljgldkkkgaaRow4
import Derived.Test.YtemlljgldkkkgaaLaw4
namespace Go.Proofs.Ytemlljgldkkkgaa
theorem PagebreakBest_proved : Rows.PagebreakBestSaid :=
  PagebreakBest_row fun AL AN AP cL cN cP P b w S hR h0 h1 => PagebreakBest_any AL AN AP cL cN cP P b w S hR h0 h1
end Go.Proofs.Ytemlljgldkkkgaa
