/-
  A PART OF A LONG RUN of the author's own evaluator: a call of 'file.Read' in 'counterpanelaw33.FileTexts', run by itself.
-/
import Derived.Test.YtcpigoljjbhkkaaGreatDoorFtGY
import Derived.Test.YtcpigoljjbhkkaaGreatDoorFtGE
namespace Go.Proofs.YtcpigoljjbhkkaaGreatDoor.ft
open Go Go.RowKit Go.Proofs.YtcpigoljjbhkkaaGreatDoor.Ev

def eR_ls : Entry := { f := 6, args := [(.opq 42)], objs := [], next := 1221, outs := [((.tuple [(.ptr 1401 0), (eI (0)), (eI (0))]), [(1221, (.cells [(.map 1374)] 109)), (1222, (.cells [(.lit (.map none))] 127)), (1374, (.map [((.agg [(eI (0)), (eI (2)), (eI (0)), (eI (2))]), (.agg [(eI (1)), (eI (2)), (eI (0)), (eI (0)), (.opq 1), eF, (eI (0)), (eI (0)), (eI (0)), (eI (0)), (eI (0)), (eS []), eF, (eI (0)), (eS []), (eI (0)), (eI (0)), (eI (0)), (eI (0)), eF, eF, (eI (0)), (eI (0)), (eI (0)), (eI (0)), eF, eF, (eI (0)), (.lit (.slice none 0 0))]), 0)] 1)), (1377, (.cells [(.row 1386 0 2 2 1386), (.row 1388 0 2 2 1388), (.lit (.map none)), (.lit (.slice none 0 0)), (.lit (.slice none 0 0))] 139)), (1386, (.row [(eI (0)), (eI (1)), (eI (0)), (eI (2))] 32 2 1386 2)), (1388, (.row [eT, eT] 4 2 1388 1)), (1389, (.cells [(.row 1398 0 2 2 1398), (.row 1400 0 2 2 1400), (.lit (.map none)), (.lit (.slice none 0 0)), (.lit (.slice none 0 0))] 139)), (1398, (.row [(eI (0)), (eI (1)), (eI (0)), (eI (2))] 32 2 1398 2)), (1400, (.row [eT, eT] 4 2 1400 1)), (1401, (.cells [(.ptr 1377 0), (.ptr 1389 0), (.ptr 1221 0), (.ptr 1222 0)] 43))], 1402)] }
set_option maxRecDepth 100000 in
theorem eR_run_ls (l : List UInt8) : covers (runO Tryz.prog (Γ_ls l) (ftOr T_ls false []) 2000 (.call eR_ls.f eR_ls.args eR_ls.hp)) eR_ls.outs = true := by kernel_rfl
theorem eR_ok_ls {s t : List UInt8} (f : Fit K_ls s t) {a : List Tok} (ha : K_ls.tx[42]? = some a) : EntryOk Tryz.prog (ftEnv (Γ_ls (den s t a)) K_ls s t) eR_ls := by
  haveI : AskOk Tryz.prog (ftEnv (Γ_ls (den s t a)) K_ls s t) := ftAsk f ha rfl rows_ok_ls
  exact entry_okO (ftOrOk f T_ok_ls (aw := false) (fun h => by cases h) (es := []) (fun e h => by cases h)) 2000 eR_ls (eR_run_ls _)
end Go.Proofs.YtcpigoljjbhkkaaGreatDoor.ft
