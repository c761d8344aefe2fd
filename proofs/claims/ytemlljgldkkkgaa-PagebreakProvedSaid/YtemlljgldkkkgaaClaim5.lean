/- PagebreakProved returns true for every input, and its arguments read as before. No condition. -/
import Derived.Test.YtemlljgldkkkgaaRow5
import Derived.Test.YtemlljgldkkkgaaLaw5
namespace Go.Proofs.Ytemlljgldkkkgaa
theorem PagebreakProved_proved : Rows.PagebreakProvedSaid :=
  PagebreakProved_row fun AL AN AP cL cN cP P b k l w S hR h0 h1 h2 h3 => PagebreakProved_any AL AN AP cL cN cP P b k l w S hR h0 h1 h2 h3
end Go.Proofs.Ytemlljgldkkkgaa
