/-
  A PART OF A LONG RUN of the author's own evaluator: a call of 'file.Read' in 'counterpanelaw33.FileTexts', run by itself.
-/
import Derived.Test.YtcpigoljjbhkkaaGreatDoorFtGY
import Derived.Test.YtcpigoljjbhkkaaGreatDoorFtGE
namespace Go.Proofs.YtcpigoljjbhkkaaGreatDoor.ft
open Go Go.RowKit Go.Proofs.YtcpigoljjbhkkaaGreatDoor.Ev

def eR_ss : Entry := { f := 6, args := [(.opq 55)], objs := [], next := 1290, outs := [((.tuple [(.ptr 1594 0), (eI (0)), (eI (0))]), [(1290, (.cells [(.map 1443)] 109)), (1291, (.cells [(.lit (.map none))] 127)), (1443, (.map [((.agg [(eI (0)), (eI (1)), (eI (0)), (eI (1))]), (.agg [(eI (1)), (eI (2)), (eI (0)), (eI (0)), (.opq 0), eF, (eI (0)), (eI (0)), (eI (0)), (eI (0)), (eI (0)), (eS []), eF, (eI (0)), (eS []), (eI (0)), (eI (0)), (eI (0)), (eI (0)), eF, eF, (eI (0)), (eI (0)), (eI (0)), (eI (0)), eF, eF, (eI (0)), (.lit (.slice none 0 0))]), 0), ((.agg [(eI (0)), (eI (2)), (eI (0)), (eI (2))]), (.agg [(eI (1)), (eI (2)), (eI (0)), (eI (0)), (.opq 1), eF, (eI (0)), (eI (0)), (eI (0)), (eI (0)), (eI (0)), (eS []), eF, (eI (0)), (eS []), (eI (0)), (eI (0)), (eI (0)), (eI (0)), eF, eF, (eI (0)), (eI (0)), (eI (0)), (eI (0)), eF, eF, (eI (0)), (.lit (.slice none 0 0))]), 1)] 2)), (1570, (.cells [(.row 1579 0 2 2 1579), (.row 1581 0 2 2 1581), (.lit (.map none)), (.lit (.slice none 0 0)), (.lit (.slice none 0 0))] 139)), (1579, (.row [(eI (0)), (eI (1)), (eI (0)), (eI (2))] 32 2 1579 2)), (1581, (.row [eT, eT] 4 2 1581 1)), (1582, (.cells [(.row 1591 0 2 2 1591), (.row 1593 0 2 2 1593), (.lit (.map none)), (.lit (.slice none 0 0)), (.lit (.slice none 0 0))] 139)), (1591, (.row [(eI (0)), (eI (1)), (eI (0)), (eI (2))] 32 2 1591 2)), (1593, (.row [eT, eT] 4 2 1593 1)), (1594, (.cells [(.ptr 1570 0), (.ptr 1582 0), (.ptr 1290 0), (.ptr 1291 0)] 43))], 1595)] }
set_option maxRecDepth 100000 in
theorem eR_run_ss (l : List UInt8) : covers (runO Tryz.prog (Γ_ss l) (ftOr T_ss false []) 2000 (.call eR_ss.f eR_ss.args eR_ss.hp)) eR_ss.outs = true := by kernel_rfl
theorem eR_ok_ss {s t : List UInt8} (f : Fit K_ss s t) {a : List Tok} (ha : K_ss.tx[55]? = some a) : EntryOk Tryz.prog (ftEnv (Γ_ss (den s t a)) K_ss s t) eR_ss := by
  haveI : AskOk Tryz.prog (ftEnv (Γ_ss (den s t a)) K_ss s t) := ftAsk f ha rfl rows_ok_ss
  exact entry_okO (ftOrOk f T_ok_ss (aw := false) (fun h => by cases h) (es := []) (fun e h => by cases h)) 2000 eR_ss (eR_run_ss _)
end Go.Proofs.YtcpigoljjbhkkaaGreatDoor.ft
