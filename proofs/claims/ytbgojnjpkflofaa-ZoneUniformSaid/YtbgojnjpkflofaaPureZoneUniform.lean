/- For any numbers, the pure statement of pairinglaw7.ZoneUniform holds: in a zone without shifts local time is instant plus offset, every local time has one instant, and two days hold one or two nights of every band. No condition. -/
import Derived.Test.YtbgojnjpkflofaaPx15
import Derived.Test.YtbgojnjpkflofaaZpQ
namespace Go.Proofs.Ytbgojnjpkflofaa.Pure
open Go.RowKit Go.Proofs.Ytbgojnjpkflofaa.P Go.Proofs.YtbgojnjpkflofaaW.PrintWords Go.Proofs.YtbgojnjpkflofaaW.PrintLast
theorem ZoneUniform : pairinglaw7_ZoneUniform.Pure := fun o t a b _ _ _ _ => (Zp.zoneUniform_ev o t a b).rounds
end Go.Proofs.Ytbgojnjpkflofaa.Pure
